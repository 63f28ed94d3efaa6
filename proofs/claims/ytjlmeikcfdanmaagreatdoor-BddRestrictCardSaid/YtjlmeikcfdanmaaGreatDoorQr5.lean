/-
  SEVERAL TEXTS IN ONE (joined by tools/assemble.py of this repository): Sf, Pa, Pb, Pc, Pd, Pe, Pf, Pg, Ph, Pi, Pj, Wb, Wc, Vl, Vp, Vf, Wd.
-/
import Derived.Test.YtjlmeikcfdanmaaGreatDoorQr4
import Derived.KernelRfl
import Derived.Sort.AssemblyPlain
set_option linter.unusedVariables false
set_option linter.unusedSimpArgs false
namespace Go.Proofs.YtjlmeikcfdanmaaGreatDoor.DE
open Go

/-! cmp.isNaN[int] -/
def s187 (cf : CallF) (a0 : D) (S : Store) (Post : D → Store → Prop) : Prop :=
  OX (binD .neq .num a0 a0) fun x1 =>
  Post x1 S
theorem e187 (cf : CallF) (a0 : D) (S : Store) (Post : D → Store → Prop) : wp cf c187 (frame0 d187 [a0]) S (FinK d187.res Post) = s187 cf a0 S Post := wpS_of (by kernel_rfl)
theorem i187 (a0 : D) (r : D) (ha : noRefL (stripL [a0]) = true) (hr : noRef r = true) (h : s187 (call dp) (strip a0) [] fun d _ => stripT d = r) : isoCall (call dp) 187 [a0] = some r := iso_s (f := d187) rfl ⟨rfl, by decide⟩ ha hr (by rw [← e187] at h; exact h)
/-! cmp.Compare[int] -/
def s144 (cf : CallF) (a0 : D) (a1 : D) (S : Store) (Post : D → Store → Prop) : Prop :=
  OX (isoCall cf 187 [a0]) fun x1 =>
  OX (isoCall cf 187 [a1]) fun x2 =>
  WB x1
  (WB x2
  (Post (.i .i64 0) S)
  (Post (.i .i64 (-1)) S))
  (WB x2
  (Post (.i .i64 1) S)
  (OX (binD .lss .num a0 a1) fun x3 =>
  WB x3
  (Post (.i .i64 (-1)) S)
  (OX (binD .gtr .num a0 a1) fun x4 =>
  WB x4
  (Post (.i .i64 1) S)
  (Post (.i .i64 0) S))))
theorem e144 (cf : CallF) (a0 : D) (a1 : D) (S : Store) (Post : D → Store → Prop) : wp cf c144 (frame0 d144 [a0, a1]) S (FinK d144.res Post) = s144 cf a0 a1 S Post := wpS_of (by kernel_rfl)
theorem i144 (a0 : D) (a1 : D) (r : D) (ha : noRefL (stripL [a0, a1]) = true) (hr : noRef r = true) (h : s144 (call dp) (strip a0) (strip a1) [] fun d _ => stripT d = r) : isoCall (call dp) 144 [a0, a1] = some r := iso_s (f := d144) rfl ⟨rfl, by decide⟩ ha hr (by rw [← e144] at h; exact h)
/-! cmp.Or[int] -/
def s143_r0 (cf : CallF) (a2 : D) (a3 : D) (a6 : D) (a7 : D) (a8 : D) (a9 : D) (S : Store) (Q : Ex → List D → Store → Prop) : Prop :=
  Q .ret (mkf 18 [(2, a3), (3, .top), (6, .top), (7, .top), (8, .top), (9, .top)]) S
theorem e143_r0 (cf : CallF) (a2 : D) (a3 : D) (a6 : D) (a7 : D) (a8 : D) (a9 : D) (S : Store) (Q : Ex → List D → Store → Prop) : wp cf c143_r0 (mkf 18 [(2, a2), (3, a3), (6, a6), (7, a7), (8, a8), (9, a9)]) S Q = s143_r0 cf a2 a3 a6 a7 a8 a9 S Q := wpS_of (by kernel_rfl)
def s143_0 (cf : CallF) (a2 : D) (a3 : D) (a6 : D) (a7 : D) (a8 : D) (a9 : D) (S : Store) (Q : Ex → List D → Store → Prop) : Prop :=
  OX (binD .lss .num a8 a7) fun x1 =>
  WB x1
  (OX (iaD 1 a6 a8) fun x2 =>
  OX (ldD S 1 false x2) fun x3 =>
  OX (binD .neq .num x3 a3) fun x4 =>
  WB x4
  (Q .ret (mkf 18 [(2, x3), (3, .top), (6, .top), (7, .top), (8, .top), (9, .top)]) S)
  (OX (binD .add .num a8 (.i .i64 1)) fun x5 =>
  Q .normal (mkf 18 [(2, a2), (3, a3), (6, a6), (7, a7), (8, x5), (9, .top)]) S))
  (Q (.exit 0) (mkf 18 [(2, a2), (3, a3), (6, a6), (7, a7), (8, a8), (9, x1)]) S)
theorem e143_0 (cf : CallF) (a2 : D) (a3 : D) (a6 : D) (a7 : D) (a8 : D) (a9 : D) (S : Store) (Q : Ex → List D → Store → Prop) : wp cf c143_0 (fkill (mkf 18 [(2, a2), (3, a3), (6, a6), (7, a7), (8, a8), (9, a9)]) []) S Q = s143_0 cf a2 a3 a6 a7 a8 a9 S Q := wpS_of (by kernel_rfl)
def s143 (cf : CallF) (a0 : D) (S : Store) (Post : D → Store → Prop) : Prop :=
  OX (lenD false a0) fun x6 =>
  W cf (.loop [] c143_0) (mkf 18 [(2, .top), (3, (.i .i64 0)), (6, a0), (7, x6), (8, (.i .i64 0)), (9, .top)]) S (Qblk 0 (QS cf c143_r0 (FinK [.t 2] Post)))
theorem e143 (cf : CallF) (a0 : D) (S : Store) (Post : D → Store → Prop) : wp cf c143 (frame0 d143 [a0]) S (FinK d143.res Post) = s143 cf a0 S Post := wpS_of (by kernel_rfl)
theorem i143 (a0 : D) (r : D) (ha : noRefL (stripL [a0]) = true) (hr : noRef r = true) (h : s143 (call dp) (strip a0) [] fun d _ => stripT d = r) : isoCall (call dp) 143 [a0] = some r := iso_s (f := d143) rfl ⟨rfl, by decide⟩ ha hr (by rw [← e143] at h; exact h)
/-! lineage/rowset.Compare -/
def s123 (cf : CallF) (a0 : D) (a1 : D) (S : Store) (Post : D → Store → Prop) : Prop :=
  bxx 2 true a0 S fun x1 S2 =>
  bxx 2 true a1 S2 fun x3 S4 =>
  OX (faD 0 x1) fun x5 =>
  OX (ldD S4 1 false x5) fun x6 =>
  OX (faD 0 x3) fun x7 =>
  OX (ldD S4 1 false x7) fun x8 =>
  OX (isoCall cf 144 [x6, x8]) fun x9 =>
  OX (faD 1 x1) fun x10 =>
  OX (ldD S4 1 false x10) fun x11 =>
  OX (faD 1 x3) fun x12 =>
  OX (ldD S4 1 false x12) fun x13 =>
  OX (isoCall cf 144 [x11, x13]) fun x14 =>
  OX (cellsV 1 false [x9, x14]) fun x15 =>
  OX (isoCall cf 143 [(.sl 1 false x15 .ro)]) fun x16 =>
  Post x16 S4
theorem e123 (cf : CallF) (a0 : D) (a1 : D) (S : Store) (Post : D → Store → Prop) : wp cf c123 (frame0 d123 [a0, a1]) S (FinK d123.res Post) = s123 cf a0 a1 S Post := wpS_of (by kernel_rfl)
theorem i123 (a0 : D) (a1 : D) (r : D) (ha : noRefL (stripL [a0, a1]) = true) (hr : noRef r = true) (h : s123 (call dp) (strip a0) (strip a1) [] fun d _ => stripT d = r) : isoCall (call dp) 123 [a0, a1] = some r := iso_s (f := d123) rfl ⟨rfl, by decide⟩ ha hr (by rw [← e123] at h; exact h)
/-! slices.insertionSortCmpFunc[lineage/api.RowID] -/
def s198_r0 (cf : CallF) (a0 : D) (a1 : D) (a2 : D) (a3 : D) (a8 : D) (a9 : D) (a14 : D) (a34 : D) (S : Store) (Q : Ex → List D → Store → Prop) : Prop :=
  OX (binD .add .num a8 (.i .i64 1)) fun x1 =>
  Q .normal (mkf 53 [(0, a0), (1, a1), (2, a2), (3, a3), (8, x1), (9, .top), (14, a14), (34, .top)]) S
theorem e198_r0 (cf : CallF) (a0 : D) (a1 : D) (a2 : D) (a3 : D) (a8 : D) (a9 : D) (a14 : D) (a34 : D) (S : Store) (Q : Ex → List D → Store → Prop) : wp cf c198_r0 (mkf 53 [(0, a0), (1, a1), (2, a2), (3, a3), (8, a8), (9, a9), (14, a14), (34, a34)]) S Q = s198_r0 cf a0 a1 a2 a3 a8 a9 a14 a34 S Q := wpS_of (by kernel_rfl)
def s198_0 (cf : CallF) (a0 : D) (a1 : D) (a2 : D) (a3 : D) (a8 : D) (a9 : D) (a14 : D) (a34 : D) (S : Store) (Q : Ex → List D → Store → Prop) : Prop :=
  OX (binD .gtr .num a9 a1) fun x2 =>
  OX (gsel x2 true (some a3)) fun x3 =>
  OX (gsel x2 true (some a0)) fun x4 =>
  OX (gsel x2 true (some a9)) fun x5 =>
  OX (gsel x2 true (iaD 2 x4 x5)) fun x6 =>
  OX (gsel x2 true (ldD S 2 true x6)) fun x7 =>
  OX (gsel x2 true (some a0)) fun x8 =>
  OX (gsel x2 true (some a9)) fun x9 =>
  OX (gsel x2 true (binD .sub .num x9 (.i .i64 1))) fun x10 =>
  OX (gsel x2 true (iaD 2 x8 x10)) fun x11 =>
  OX (gsel x2 true (ldD S 2 true x11)) fun x12 =>
  OX (gsel x2 true (match fnD x3 with | some p => isoCall cf p.1 ([x7, x12] ++ p.2) | none => none)) fun x13 =>
  OX (gsel x2 true (binD .lss .num x13 (.i .i64 0))) fun x14 =>
  OX (pickD x2 x14 (.b false)) fun x15 =>
  WB x15
  (OX (binD .sub .num a9 (.i .i64 1)) fun x16 =>
  OX (binD .sub .num a9 (.i .i64 1)) fun x17 =>
  OX (iaD 2 a0 x17) fun x18 =>
  OX (ldD S 2 true x18) fun x19 =>
  OX (iaD 2 a0 a9) fun x20 =>
  OX (ldD S 2 true x20) fun x21 =>
  OX (iaD 2 a0 a9) fun x22 =>
  OX (stD S 2 true x22 x19) fun S24 =>
  OX (iaD 2 a0 x16) fun x25 =>
  OX (stD S24 2 true x25 x21) fun S27 =>
  OX (binD .sub .num a9 (.i .i64 1)) fun x28 =>
  Q .normal (mkf 53 [(0, a0), (1, a1), (2, a2), (3, a3), (8, a8), (9, x28), (14, a14), (34, .top)]) S27)
  (Q (.exit 2) (mkf 53 [(0, a0), (1, a1), (2, a2), (3, a3), (8, a8), (9, a9), (14, a14), (34, x15)]) S)
theorem e198_0 (cf : CallF) (a0 : D) (a1 : D) (a2 : D) (a3 : D) (a8 : D) (a9 : D) (a14 : D) (a34 : D) (S : Store) (Q : Ex → List D → Store → Prop) : wp cf c198_0 (fkill (mkf 53 [(0, a0), (1, a1), (2, a2), (3, a3), (8, a8), (9, a9), (14, a14), (34, a34)]) []) S Q = s198_0 cf a0 a1 a2 a3 a8 a9 a14 a34 S Q := wpS_of (by kernel_rfl)
def s198_1 (cf : CallF) (a0 : D) (a1 : D) (a2 : D) (a3 : D) (a8 : D) (a9 : D) (a14 : D) (a34 : D) (S : Store) (Q : Ex → List D → Store → Prop) : Prop :=
  OX (binD .lss .num a8 a2) fun x29 =>
  WB x29
  (W cf (.loop [] c198_0) (mkf 53 [(0, a0), (1, a1), (2, a2), (3, a3), (8, a8), (9, a8), (14, .top), (34, a34)]) S (Qblk 2 (Qblk 1 (QS cf c198_r0 Q))))
  (Q (.exit 0) (mkf 53 [(0, a0), (1, a1), (2, a2), (3, a3), (8, a8), (9, a9), (14, x29), (34, a34)]) S)
theorem e198_1 (cf : CallF) (a0 : D) (a1 : D) (a2 : D) (a3 : D) (a8 : D) (a9 : D) (a14 : D) (a34 : D) (S : Store) (Q : Ex → List D → Store → Prop) : wp cf c198_1 (fkill (mkf 53 [(0, a0), (1, a1), (2, a2), (3, a3), (8, a8), (9, a9), (14, a14), (34, a34)]) []) S Q = s198_1 cf a0 a1 a2 a3 a8 a9 a14 a34 S Q := wpS_of (by kernel_rfl)
def s198 (cf : CallF) (a0 : D) (a1 : D) (a2 : D) (a3 : D) (S : Store) (Post : D → Store → Prop) : Prop :=
  OX (binD .add .num a1 (.i .i64 1)) fun x30 =>
  W cf (.loop [] c198_1) (mkf 53 [(0, a0), (1, a1), (2, a2), (3, a3), (8, x30), (9, .top), (14, .top), (34, .top)]) S (Qblk 0 (FinK [] Post))
theorem e198 (cf : CallF) (a0 : D) (a1 : D) (a2 : D) (a3 : D) (S : Store) (Post : D → Store → Prop) : wp cf c198 (frame0 d198 [a0, a1, a2, a3]) S (FinK d198.res Post) = s198 cf a0 a1 a2 a3 S Post := wpS_of (by kernel_rfl)
theorem f198 (a0 : D) (a1 : D) (a2 : D) (a3 : D) (S : Store) (Post : D → Store → Prop) (h : s198 (call dp) a0 a1 a2 a3 S Post) : ∃ r S', call dp 198 [a0, a1, a2, a3] S = some (r, S') ∧ Post r S' := call_s (f := d198) rfl ⟨rfl, by decide⟩ (by rw [← e198] at h; exact h)

/-! slices.siftDownCmpFunc[lineage/api.RowID] -/
def s216_0 (cf : CallF) (a0 : D) (a2 : D) (a3 : D) (a4 : D) (a10 : D) (a11 : D) (a18 : D) (a58 : D) (S : Store) (Q : Ex → List D → Store → Prop) : Prop :=
  OX (binD .mul .num (.i .i64 2) a10) fun x1 =>
  OX (binD .add .num x1 (.i .i64 1)) fun x2 =>
  OX (binD .geq .num x2 a2) fun x3 =>
  WB x3
  (Q (.exit 0) (mkf 82 [(0, a0), (2, a2), (3, a3), (4, a4), (10, a10), (11, x2), (18, x3), (58, a58)]) S)
  (OX (binD .add .num x2 (.i .i64 1)) fun x4 =>
  OX (binD .lss .num x4 a2) fun x5 =>
  OX (gsel x5 true (some a4)) fun x6 =>
  OX (gsel x5 true (some a0)) fun x7 =>
  OX (gsel x5 true (some a3)) fun x8 =>
  OX (gsel x5 true (some x2)) fun x9 =>
  OX (gsel x5 true (binD .add .num x8 x9)) fun x10 =>
  OX (gsel x5 true (iaD 2 x7 x10)) fun x11 =>
  OX (gsel x5 true (ldD S 2 true x11)) fun x12 =>
  OX (gsel x5 true (some a0)) fun x13 =>
  OX (gsel x5 true (some a3)) fun x14 =>
  OX (gsel x5 true (some x2)) fun x15 =>
  OX (gsel x5 true (binD .add .num x14 x15)) fun x16 =>
  OX (gsel x5 true (binD .add .num x16 (.i .i64 1))) fun x17 =>
  OX (gsel x5 true (iaD 2 x13 x17)) fun x18 =>
  OX (gsel x5 true (ldD S 2 true x18)) fun x19 =>
  OX (gsel x5 true (match fnD x6 with | some p => isoCall cf p.1 ([x12, x19] ++ p.2) | none => none)) fun x20 =>
  OX (gsel x5 true (binD .lss .num x20 (.i .i64 0))) fun x21 =>
  OX (pickD x5 x21 (.b false)) fun x22 =>
  jn (fun (y24 : D) (y25 : D) (y26 : D) (y27 : D) (y28 : D) (y29 : D) (y30 : D) (y31 : D) (S32 : Store) =>
  OX (binD .add .num y26 y28) fun x33 =>
  OX (iaD 2 y24 x33) fun x34 =>
  OX (ldD S32 2 true x34) fun x35 =>
  OX (binD .add .num y26 y29) fun x36 =>
  OX (iaD 2 y24 x36) fun x37 =>
  OX (ldD S32 2 true x37) fun x38 =>
  OX (fnD y27) fun q40 => OX (isoCall cf q40.1 ([x35, x38] ++ q40.2)) fun x39 =>
  OX (binD .lss .num x39 (.i .i64 0)) fun x41 =>
  OX (unD .not x41) fun x42 =>
  WB x42
  (Q .ret (mkf 82 [(0, y24), (2, y25), (3, y26), (4, y27), (10, y28), (11, y29), (18, .top), (58, x42)]) S32)
  (OX (binD .add .num y26 y28) fun x43 =>
  OX (binD .add .num y26 y29) fun x44 =>
  OX (binD .add .num y26 y29) fun x45 =>
  OX (iaD 2 y24 x45) fun x46 =>
  OX (ldD S32 2 true x46) fun x47 =>
  OX (binD .add .num y26 y28) fun x48 =>
  OX (iaD 2 y24 x48) fun x49 =>
  OX (ldD S32 2 true x49) fun x50 =>
  OX (iaD 2 y24 x43) fun x51 =>
  OX (stD S32 2 true x51 x47) fun S53 =>
  OX (iaD 2 y24 x44) fun x54 =>
  OX (stD S53 2 true x54 x50) fun S56 =>
  Q .normal (mkf 82 [(0, y24), (2, y25), (3, y26), (4, y27), (10, y29), (11, .top), (18, .top), (58, .top)]) S56)) fun k23 =>
  WB x22
  (OX (binD .add .num x2 (.i .i64 1)) fun x57 =>
  k23 a0 a2 a3 a4 a10 x57 D.top a58 S)
  (k23 a0 a2 a3 a4 a10 x2 x22 a58 S))
theorem e216_0 (cf : CallF) (a0 : D) (a2 : D) (a3 : D) (a4 : D) (a10 : D) (a11 : D) (a18 : D) (a58 : D) (S : Store) (Q : Ex → List D → Store → Prop) : wp cf c216_0 (fkill (mkf 82 [(0, a0), (2, a2), (3, a3), (4, a4), (10, a10), (11, a11), (18, a18), (58, a58)]) []) S Q = s216_0 cf a0 a2 a3 a4 a10 a11 a18 a58 S Q := wpS_of (by kernel_rfl)
def s216 (cf : CallF) (a0 : D) (a1 : D) (a2 : D) (a3 : D) (a4 : D) (S : Store) (Post : D → Store → Prop) : Prop :=
  W cf (.loop [] c216_0) (mkf 82 [(0, a0), (2, a2), (3, a3), (4, a4), (10, a1), (11, .top), (18, .top), (58, .top)]) S (Qblk 0 (FinK [] Post))
theorem e216 (cf : CallF) (a0 : D) (a1 : D) (a2 : D) (a3 : D) (a4 : D) (S : Store) (Post : D → Store → Prop) : wp cf c216 (frame0 d216 [a0, a1, a2, a3, a4]) S (FinK d216.res Post) = s216 cf a0 a1 a2 a3 a4 S Post := wpS_of (by kernel_rfl)
theorem f216 (a0 : D) (a1 : D) (a2 : D) (a3 : D) (a4 : D) (S : Store) (Post : D → Store → Prop) (h : s216 (call dp) a0 a1 a2 a3 a4 S Post) : ∃ r S', call dp 216 [a0, a1, a2, a3, a4] S = some (r, S') ∧ Post r S' := call_s (f := d216) rfl ⟨rfl, by decide⟩ (by rw [← e216] at h; exact h)

/-! slices.heapSortCmpFunc[lineage/api.RowID] -/
def s199_0 (cf : CallF) (a0 : D) (a3 : D) (a8 : D) (a9 : D) (a10 : D) (a11 : D) (a12 : D) (a21 : D) (a33 : D) (S : Store) (Q : Ex → List D → Store → Prop) : Prop :=
  OX (binD .geq .num a12 (.i .i64 0)) fun x1 =>
  WB x1
  (OX (binD .add .num a8 a12) fun x2 =>
  OX (binD .add .num a8 a12) fun x3 =>
  OX (iaD 2 a0 x3) fun x4 =>
  OX (ldD S 2 true x4) fun x5 =>
  OX (iaD 2 a0 a8) fun x6 =>
  OX (ldD S 2 true x6) fun x7 =>
  OX (iaD 2 a0 a8) fun x8 =>
  OX (stD S 2 true x8 x5) fun S10 =>
  OX (iaD 2 a0 x2) fun x11 =>
  OX (stD S10 2 true x11 x7) fun S13 =>
  OX (cf 216 [a0, a9, a12, a8, a3] S13) fun p15 =>
  OX (binD .sub .num a12 (.i .i64 1)) fun x16 =>
  Q .normal (mkf 60 [(0, a0), (3, a3), (8, a8), (9, a9), (10, a10), (11, a11), (12, x16), (21, a21), (33, .top)]) p15.2)
  (Q (.exit 2) (mkf 60 [(0, a0), (3, a3), (8, a8), (9, a9), (10, a10), (11, a11), (12, a12), (21, a21), (33, x1)]) S)
theorem e199_0 (cf : CallF) (a0 : D) (a3 : D) (a8 : D) (a9 : D) (a10 : D) (a11 : D) (a12 : D) (a21 : D) (a33 : D) (S : Store) (Q : Ex → List D → Store → Prop) : wp cf c199_0 (fkill (mkf 60 [(0, a0), (3, a3), (8, a8), (9, a9), (10, a10), (11, a11), (12, a12), (21, a21), (33, a33)]) []) S Q = s199_0 cf a0 a3 a8 a9 a10 a11 a12 a21 a33 S Q := wpS_of (by kernel_rfl)
def s199_r0 (cf : CallF) (a0 : D) (a3 : D) (a8 : D) (a9 : D) (a10 : D) (a11 : D) (a12 : D) (a21 : D) (a33 : D) (S : Store) (Q : Ex → List D → Store → Prop) : Prop :=
  OX (binD .sub .num a10 (.i .i64 1)) fun x17 =>
  W cf (.loop [] c199_0) (mkf 60 [(0, a0), (3, a3), (8, a8), (9, a9), (10, .top), (11, .top), (12, x17), (21, .top), (33, a33)]) S (Qblk 2 Q)
theorem e199_r0 (cf : CallF) (a0 : D) (a3 : D) (a8 : D) (a9 : D) (a10 : D) (a11 : D) (a12 : D) (a21 : D) (a33 : D) (S : Store) (Q : Ex → List D → Store → Prop) : wp cf c199_r0 (mkf 60 [(0, a0), (3, a3), (8, a8), (9, a9), (10, a10), (11, a11), (12, a12), (21, a21), (33, a33)]) S Q = s199_r0 cf a0 a3 a8 a9 a10 a11 a12 a21 a33 S Q := wpS_of (by kernel_rfl)
def s199_1 (cf : CallF) (a0 : D) (a3 : D) (a8 : D) (a9 : D) (a10 : D) (a11 : D) (a12 : D) (a21 : D) (a33 : D) (S : Store) (Q : Ex → List D → Store → Prop) : Prop :=
  OX (binD .geq .num a11 (.i .i64 0)) fun x18 =>
  WB x18
  (OX (cf 216 [a0, a11, a10, a8, a3] S) fun p20 =>
  OX (binD .sub .num a11 (.i .i64 1)) fun x21 =>
  Q .normal (mkf 60 [(0, a0), (3, a3), (8, a8), (9, a9), (10, a10), (11, x21), (12, a12), (21, .top), (33, a33)]) p20.2)
  (Q (.exit 0) (mkf 60 [(0, a0), (3, a3), (8, a8), (9, a9), (10, a10), (11, a11), (12, a12), (21, x18), (33, a33)]) S)
theorem e199_1 (cf : CallF) (a0 : D) (a3 : D) (a8 : D) (a9 : D) (a10 : D) (a11 : D) (a12 : D) (a21 : D) (a33 : D) (S : Store) (Q : Ex → List D → Store → Prop) : wp cf c199_1 (fkill (mkf 60 [(0, a0), (3, a3), (8, a8), (9, a9), (10, a10), (11, a11), (12, a12), (21, a21), (33, a33)]) []) S Q = s199_1 cf a0 a3 a8 a9 a10 a11 a12 a21 a33 S Q := wpS_of (by kernel_rfl)
def s199 (cf : CallF) (a0 : D) (a1 : D) (a2 : D) (a3 : D) (S : Store) (Post : D → Store → Prop) : Prop :=
  OX (binD .sub .num a2 a1) fun x22 =>
  OX (binD .sub .num x22 (.i .i64 1)) fun x23 =>
  OX (binD .quo .num x23 (.i .i64 2)) fun x24 =>
  W cf (.loop [] c199_1) (mkf 60 [(0, a0), (3, a3), (8, a1), (9, (.i .i64 0)), (10, x22), (11, x24), (12, .top), (21, .top), (33, .top)]) S (Qblk 0 (QS cf c199_r0 (FinK [] Post)))
theorem e199 (cf : CallF) (a0 : D) (a1 : D) (a2 : D) (a3 : D) (S : Store) (Post : D → Store → Prop) : wp cf c199 (frame0 d199 [a0, a1, a2, a3]) S (FinK d199.res Post) = s199 cf a0 a1 a2 a3 S Post := wpS_of (by kernel_rfl)
theorem f199 (a0 : D) (a1 : D) (a2 : D) (a3 : D) (S : Store) (Post : D → Store → Prop) (h : s199 (call dp) a0 a1 a2 a3 S Post) : ∃ r S', call dp 199 [a0, a1, a2, a3] S = some (r, S') ∧ Post r S' := call_s (f := d199) rfl ⟨rfl, by decide⟩ (by rw [← e199] at h; exact h)

/-! (*slices.xorshift).Next -/
def s218 (cf : CallF) (a0 : D) (S : Store) (Post : D → Store → Prop) : Prop :=
  OX (nilckD a0) fun x1 =>
  OX (ldD S 1 false x1) fun x2 =>
  OX (nilckD a0) fun x3 =>
  OX (ldD S 1 false x3) fun x4 =>
  OX (binD .shl .num x4 (.i .u64 13)) fun x5 =>
  OX (binD .xor .num x2 x5) fun x6 =>
  OX (nilckD a0) fun x7 =>
  OX (stD S 1 false x7 x6) fun S9 =>
  OX (nilckD a0) fun x10 =>
  OX (ldD S9 1 false x10) fun x11 =>
  OX (nilckD a0) fun x12 =>
  OX (ldD S9 1 false x12) fun x13 =>
  OX (binD .shr .num x13 (.i .u64 7)) fun x14 =>
  OX (binD .xor .num x11 x14) fun x15 =>
  OX (nilckD a0) fun x16 =>
  OX (stD S9 1 false x16 x15) fun S18 =>
  OX (nilckD a0) fun x19 =>
  OX (ldD S18 1 false x19) fun x20 =>
  OX (nilckD a0) fun x21 =>
  OX (ldD S18 1 false x21) fun x22 =>
  OX (binD .shl .num x22 (.i .u64 17)) fun x23 =>
  OX (binD .xor .num x20 x23) fun x24 =>
  OX (nilckD a0) fun x25 =>
  OX (stD S18 1 false x25 x24) fun S27 =>
  OX (nilckD a0) fun x28 =>
  OX (ldD S27 1 false x28) fun x29 =>
  Post x29 S27
theorem e218 (cf : CallF) (a0 : D) (S : Store) (Post : D → Store → Prop) : wp cf c218 (frame0 d218 [a0]) S (FinK d218.res Post) = s218 cf a0 S Post := wpS_of (by kernel_rfl)
theorem f218 (a0 : D) (S : Store) (Post : D → Store → Prop) (h : s218 (call dp) a0 S Post) : ∃ r S', call dp 218 [a0] S = some (r, S') ∧ Post r S' := call_s (f := d218) rfl ⟨rfl, by decide⟩ (by rw [← e218] at h; exact h)

/-! math/bits.Len64 -/
def s207 (cf : CallF) (a0 : D) (S : Store) (Post : D → Store → Prop) : Prop :=
  OX (binD .geq .num a0 (.i .u64 4294967296)) fun x1 =>
  jn (fun (y3 : D) (y4 : D) (y5 : D) (S6 : Store) =>
  OX (binD .geq .num y3 (.i .u64 65536)) fun x7 =>
  jn (fun (y9 : D) (y10 : D) (y11 : D) (S12 : Store) =>
  OX (binD .geq .num y9 (.i .u64 256)) fun x13 =>
  jn (fun (y15 : D) (y16 : D) (y17 : D) (S18 : Store) =>
  OX (convD .u8 y15) fun x19 =>
  OX (ixsD (.s [0, 1, 2, 2, 3, 3, 3, 3, 4, 4, 4, 4, 4, 4, 4, 4, 5, 5, 5, 5, 5, 5, 5, 5, 5, 5, 5, 5, 5, 5, 5, 5, 6, 6, 6, 6, 6, 6, 6, 6, 6, 6, 6, 6, 6, 6, 6, 6, 6, 6, 6, 6, 6, 6, 6, 6, 6, 6, 6, 6, 6, 6, 6, 6, 7, 7, 7, 7, 7, 7, 7, 7, 7, 7, 7, 7, 7, 7, 7, 7, 7, 7, 7, 7, 7, 7, 7, 7, 7, 7, 7, 7, 7, 7, 7, 7, 7, 7, 7, 7, 7, 7, 7, 7, 7, 7, 7, 7, 7, 7, 7, 7, 7, 7, 7, 7, 7, 7, 7, 7, 7, 7, 7, 7, 7, 7, 7, 7, 8, 8, 8, 8, 8, 8, 8, 8, 8, 8, 8, 8, 8, 8, 8, 8, 8, 8, 8, 8, 8, 8, 8, 8, 8, 8, 8, 8, 8, 8, 8, 8, 8, 8, 8, 8, 8, 8, 8, 8, 8, 8, 8, 8, 8, 8, 8, 8, 8, 8, 8, 8, 8, 8, 8, 8, 8, 8, 8, 8, 8, 8, 8, 8, 8, 8, 8, 8, 8, 8, 8, 8, 8, 8, 8, 8, 8, 8, 8, 8, 8, 8, 8, 8, 8, 8, 8, 8, 8, 8, 8, 8, 8, 8, 8, 8, 8, 8, 8, 8, 8, 8, 8, 8, 8, 8, 8, 8, 8, 8, 8, 8, 8, 8, 8, 8, 8, 8, 8, 8, 8, 8, 8, 8, 8, 8, 8, 8]) x19) fun x20 =>
  OX (convD .i64 x20) fun x21 =>
  OX (binD .add .num y16 x21) fun x22 =>
  Post x22 S18) fun k14 =>
  WB x13
  (OX (binD .shr .num y9 (.i .u64 8)) fun x23 =>
  OX (binD .add .num y10 (.i .i64 8)) fun x24 =>
  k14 x23 x24 D.top S12)
  (k14 y9 y10 x13 S12)) fun k8 =>
  WB x7
  (OX (binD .shr .num y3 (.i .u64 16)) fun x25 =>
  OX (binD .add .num y4 (.i .i64 16)) fun x26 =>
  k8 x25 x26 D.top S6)
  (k8 y3 y4 x7 S6)) fun k2 =>
  WB x1
  (OX (binD .shr .num a0 (.i .u64 32)) fun x27 =>
  k2 x27 (.i .i64 32) D.top S)
  (k2 a0 (.i .i64 0) x1 S)
theorem e207 (cf : CallF) (a0 : D) (S : Store) (Post : D → Store → Prop) : wp cf c207 (frame0 d207 [a0]) S (FinK d207.res Post) = s207 cf a0 S Post := wpS_of (by kernel_rfl)
theorem i207 (a0 : D) (r : D) (ha : noRefL (stripL [a0]) = true) (hr : noRef r = true) (h : s207 (call dp) (strip a0) [] fun d _ => stripT d = r) : isoCall (call dp) 207 [a0] = some r := iso_s (f := d207) rfl ⟨rfl, by decide⟩ ha hr (by rw [← e207] at h; exact h)
/-! math/bits.Len32 -/
/-! math/bits.Len -/
def s175 (cf : CallF) (a0 : D) (S : Store) (Post : D → Store → Prop) : Prop :=
  WB (.b false)
  (OX (convD .u32 a0) fun x1 =>
  OX (isoCall cf 206 [x1]) fun x2 =>
  Post x2 S)
  (OX (isoCall cf 207 [a0]) fun x3 =>
  Post x3 S)
theorem e175 (cf : CallF) (a0 : D) (S : Store) (Post : D → Store → Prop) : wp cf c175 (frame0 d175 [a0]) S (FinK d175.res Post) = s175 cf a0 S Post := wpS_of (by kernel_rfl)
theorem i175 (a0 : D) (r : D) (ha : noRefL (stripL [a0]) = true) (hr : noRef r = true) (h : s175 (call dp) (strip a0) [] fun d _ => stripT d = r) : isoCall (call dp) 175 [a0] = some r := iso_s (f := d175) rfl ⟨rfl, by decide⟩ ha hr (by rw [← e175] at h; exact h)
/-! slices.nextPowerOfTwo -/
def s217 (cf : CallF) (a0 : D) (S : Store) (Post : D → Store → Prop) : Prop :=
  OX (convD .u64 a0) fun x1 =>
  OX (isoCall cf 175 [x1]) fun x2 =>
  OX (binD .shl .num (.i .u64 1) x2) fun x3 =>
  Post x3 S
theorem e217 (cf : CallF) (a0 : D) (S : Store) (Post : D → Store → Prop) : wp cf c217 (frame0 d217 [a0]) S (FinK d217.res Post) = s217 cf a0 S Post := wpS_of (by kernel_rfl)
theorem i217 (a0 : D) (r : D) (ha : noRefL (stripL [a0]) = true) (hr : noRef r = true) (h : s217 (call dp) (strip a0) [] fun d _ => stripT d = r) : isoCall (call dp) 217 [a0] = some r := iso_s (f := d217) rfl ⟨rfl, by decide⟩ ha hr (by rw [← e217] at h; exact h)
/-! slices.breakPatternsCmpFunc[lineage/api.RowID] -/
def s200_0 (cf : CallF) (a0 : D) (a1 : D) (a8 : D) (a9 : D) (a10 : D) (a11 : D) (a35 : D) (S : Store) (Q : Ex → List D → Store → Prop) : Prop :=
  OX (binD .quo .num a8 (.i .i64 4)) fun x1 =>
  OX (binD .mul .num x1 (.i .i64 2)) fun x2 =>
  OX (binD .add .num a1 x2) fun x3 =>
  OX (binD .add .num x3 (.i .i64 1)) fun x4 =>
  OX (binD .leq .num a11 x4) fun x5 =>
  WB x5
  (OX (cf 218 [a9] S) fun p7 =>
  OX (binD .sub .num a10 (.i .u64 1)) fun x8 =>
  OX (binD .and .num p7.1 x8) fun x9 =>
  OX (convD .i64 x9) fun x10 =>
  OX (binD .geq .num x10 a8) fun x11 =>
  jn (fun (y13 : D) (y14 : D) (y15 : D) (y16 : D) (y17 : D) (y18 : D) (y19 : D) (y20 : D) (S21 : Store) =>
  OX (binD .add .num y14 y19) fun x22 =>
  OX (binD .add .num y14 y19) fun x23 =>
  OX (iaD 2 y13 x23) fun x24 =>
  OX (ldD S21 2 true x24) fun x25 =>
  OX (iaD 2 y13 y18) fun x26 =>
  OX (ldD S21 2 true x26) fun x27 =>
  OX (iaD 2 y13 y18) fun x28 =>
  OX (stD S21 2 true x28 x25) fun S30 =>
  OX (iaD 2 y13 x22) fun x31 =>
  OX (stD S30 2 true x31 x27) fun S33 =>
  OX (binD .add .num y18 (.i .i64 1)) fun x34 =>
  Q .normal (mkf 67 [(0, y13), (1, y14), (8, y15), (9, y16), (10, y17), (11, x34), (35, .top)]) S33) fun k12 =>
  WB x11
  (OX (binD .sub .num x10 a8) fun x35 =>
  k12 a0 a1 a8 a9 a10 a11 x35 D.top p7.2)
  (k12 a0 a1 a8 a9 a10 a11 x10 x11 p7.2))
  (Q (.exit 0) (mkf 67 [(0, a0), (1, a1), (8, a8), (9, a9), (10, a10), (11, a11), (35, x5)]) S)
theorem e200_0 (cf : CallF) (a0 : D) (a1 : D) (a8 : D) (a9 : D) (a10 : D) (a11 : D) (a35 : D) (S : Store) (Q : Ex → List D → Store → Prop) : wp cf c200_0 (fkill (mkf 67 [(0, a0), (1, a1), (8, a8), (9, a9), (10, a10), (11, a11), (35, a35)]) []) S Q = s200_0 cf a0 a1 a8 a9 a10 a11 a35 S Q := wpS_of (by kernel_rfl)
def s200 (cf : CallF) (a0 : D) (a1 : D) (a2 : D) (a3 : D) (S : Store) (Post : D → Store → Prop) : Prop :=
  OX (binD .sub .num a2 a1) fun x36 =>
  OX (binD .geq .num x36 (.i .i64 8)) fun x37 =>
  WB x37
  (OX (convD .u64 x36) fun x38 =>
  al [.i .u64 0] S fun x39 S40 =>
  OX (stD S40 1 false x39 x38) fun S42 =>
  OX (isoCall cf 217 [x36]) fun x43 =>
  OX (binD .quo .num x36 (.i .i64 4)) fun x44 =>
  OX (binD .mul .num x44 (.i .i64 2)) fun x45 =>
  OX (binD .add .num a1 x45) fun x46 =>
  OX (binD .sub .num x46 (.i .i64 1)) fun x47 =>
  W cf (.loop [] c200_0) (mkf 67 [(0, a0), (1, a1), (8, x36), (9, x39), (10, x43), (11, x47), (35, .top)]) S42 (Qblk 0 (FinK [] Post)))
  (Post (.tup []) S)
theorem e200 (cf : CallF) (a0 : D) (a1 : D) (a2 : D) (a3 : D) (S : Store) (Post : D → Store → Prop) : wp cf c200 (frame0 d200 [a0, a1, a2, a3]) S (FinK d200.res Post) = s200 cf a0 a1 a2 a3 S Post := wpS_of (by kernel_rfl)
theorem f200 (a0 : D) (a1 : D) (a2 : D) (a3 : D) (S : Store) (Post : D → Store → Prop) (h : s200 (call dp) a0 a1 a2 a3 S Post) : ∃ r S', call dp 200 [a0, a1, a2, a3] S = some (r, S') ∧ Post r S' := call_s (f := d200) rfl ⟨rfl, by decide⟩ (by rw [← e200] at h; exact h)

/-! slices.order2CmpFunc[lineage/api.RowID] -/
def s224 (cf : CallF) (a0 : D) (a1 : D) (a2 : D) (a3 : D) (a4 : D) (S : Store) (Post : D → Store → Prop) : Prop :=
  OX (iaD 2 a0 a2) fun x1 =>
  OX (ldD S 2 true x1) fun x2 =>
  OX (iaD 2 a0 a1) fun x3 =>
  OX (ldD S 2 true x3) fun x4 =>
  OX (fnD a4) fun q6 => OX (isoCall cf q6.1 ([x2, x4] ++ q6.2)) fun x5 =>
  OX (binD .lss .num x5 (.i .i64 0)) fun x7 =>
  WB x7
  (OX (nilckD a3) fun x8 =>
  OX (ldD S 1 false x8) fun x9 =>
  OX (binD .add .num x9 (.i .i64 1)) fun x10 =>
  OX (nilckD a3) fun x11 =>
  OX (stD S 1 false x11 x10) fun S13 =>
  Post (.tup [a2, a1]) S13)
  (Post (.tup [a1, a2]) S)
theorem e224 (cf : CallF) (a0 : D) (a1 : D) (a2 : D) (a3 : D) (a4 : D) (S : Store) (Post : D → Store → Prop) : wp cf c224 (frame0 d224 [a0, a1, a2, a3, a4]) S (FinK d224.res Post) = s224 cf a0 a1 a2 a3 a4 S Post := wpS_of (by kernel_rfl)
theorem f224 (a0 : D) (a1 : D) (a2 : D) (a3 : D) (a4 : D) (S : Store) (Post : D → Store → Prop) (h : s224 (call dp) a0 a1 a2 a3 a4 S Post) : ∃ r S', call dp 224 [a0, a1, a2, a3, a4] S = some (r, S') ∧ Post r S' := call_s (f := d224) rfl ⟨rfl, by decide⟩ (by rw [← e224] at h; exact h)

/-! slices.medianCmpFunc[lineage/api.RowID] -/
def s220 (cf : CallF) (a0 : D) (a1 : D) (a2 : D) (a3 : D) (a4 : D) (a5 : D) (S : Store) (Post : D → Store → Prop) : Prop :=
  OX (cf 224 [a0, a1, a2, a4, a5] S) fun p2 =>
  OX (extD p2.1 0) fun x3 =>
  OX (extD p2.1 1) fun x4 =>
  OX (cf 224 [a0, x4, a3, a4, a5] p2.2) fun p6 =>
  OX (extD p6.1 0) fun x7 =>
  OX (extD p6.1 1) fun x8 =>
  OX (cf 224 [a0, x3, x7, a4, a5] p6.2) fun p10 =>
  OX (extD p10.1 0) fun x11 =>
  OX (extD p10.1 1) fun x12 =>
  Post x12 p10.2
theorem e220 (cf : CallF) (a0 : D) (a1 : D) (a2 : D) (a3 : D) (a4 : D) (a5 : D) (S : Store) (Post : D → Store → Prop) : wp cf c220 (frame0 d220 [a0, a1, a2, a3, a4, a5]) S (FinK d220.res Post) = s220 cf a0 a1 a2 a3 a4 a5 S Post := wpS_of (by kernel_rfl)
theorem f220 (a0 : D) (a1 : D) (a2 : D) (a3 : D) (a4 : D) (a5 : D) (S : Store) (Post : D → Store → Prop) (h : s220 (call dp) a0 a1 a2 a3 a4 a5 S Post) : ∃ r S', call dp 220 [a0, a1, a2, a3, a4, a5] S = some (r, S') ∧ Post r S' := call_s (f := d220) rfl ⟨rfl, by decide⟩ (by rw [← e220] at h; exact h)

/-! slices.choosePivotCmpFunc[lineage/api.RowID] -/
def s201 (cf : CallF) (a0 : D) (a1 : D) (a2 : D) (a3 : D) (S : Store) (Post : D → Store → Prop) : Prop :=
  OX (binD .sub .num a2 a1) fun x1 =>
  al [.i .i64 0] S fun x2 S3 =>
  OX (binD .quo .num x1 (.i .i64 4)) fun x4 =>
  OX (binD .mul .num x4 (.i .i64 1)) fun x5 =>
  OX (binD .add .num a1 x5) fun x6 =>
  OX (binD .quo .num x1 (.i .i64 4)) fun x7 =>
  OX (binD .mul .num x7 (.i .i64 2)) fun x8 =>
  OX (binD .add .num a1 x8) fun x9 =>
  OX (binD .quo .num x1 (.i .i64 4)) fun x10 =>
  OX (binD .mul .num x10 (.i .i64 3)) fun x11 =>
  OX (binD .add .num a1 x11) fun x12 =>
  OX (binD .geq .num x1 (.i .i64 8)) fun x13 =>
  jn (fun (y15 : D) (y16 : D) (y17 : D) (y18 : D) (y19 : D) (y20 : D) (y21 : D) (y22 : D) (S23 : Store) =>
  OX (ldD S23 1 false y18) fun x24 =>
  OX (binD .eql .num x24 (.i .i64 0)) fun x25 =>
  WB x25
  (Post (.tup [y20, (.i .i64 1)]) S23)
  (OX (binD .eql .num x24 (.i .i64 12)) fun x26 =>
  WB x26
  (Post (.tup [y20, (.i .i64 2)]) S23)
  (Post (.tup [y20, (.i .i64 0)]) S23))) fun k14 =>
  WB x13
  (OX (binD .geq .num x1 (.i .i64 50)) fun x27 =>
  jn (fun (y29 : D) (y30 : D) (y31 : D) (y32 : D) (y33 : D) (y34 : D) (y35 : D) (S36 : Store) =>
  OX (cf 220 [y29, y32, y33, y34, y31, y30] S36) fun p38 =>
  k14 D.top D.top D.top y31 D.top p38.1 D.top D.top p38.2) fun k28 =>
  WB x27
  (OX (cf 219 [a0, x6, x2, a3] S3) fun p40 =>
  OX (cf 219 [a0, x9, x2, a3] p40.2) fun p42 =>
  OX (cf 219 [a0, x12, x2, a3] p42.2) fun p44 =>
  k28 a0 a3 x2 p40.1 p42.1 p44.1 D.top p44.2)
  (k28 a0 a3 x2 x6 x9 x12 x27 S3))
  (k14 a0 a3 x1 x2 x6 x9 x12 x13 S3)
theorem e201 (cf : CallF) (a0 : D) (a1 : D) (a2 : D) (a3 : D) (S : Store) (Post : D → Store → Prop) : wp cf c201 (frame0 d201 [a0, a1, a2, a3]) S (FinK d201.res Post) = s201 cf a0 a1 a2 a3 S Post := wpS_of (by kernel_rfl)
theorem f201 (a0 : D) (a1 : D) (a2 : D) (a3 : D) (S : Store) (Post : D → Store → Prop) (h : s201 (call dp) a0 a1 a2 a3 S Post) : ∃ r S', call dp 201 [a0, a1, a2, a3] S = some (r, S') ∧ Post r S' := call_s (f := d201) rfl ⟨rfl, by decide⟩ (by rw [← e201] at h; exact h)

/-! slices.reverseRangeCmpFunc[lineage/api.RowID] -/
def s202_0 (cf : CallF) (a0 : D) (a8 : D) (a9 : D) (a15 : D) (S : Store) (Q : Ex → List D → Store → Prop) : Prop :=
  OX (binD .lss .num a8 a9) fun x1 =>
  WB x1
  (OX (iaD 2 a0 a9) fun x2 =>
  OX (ldD S 2 true x2) fun x3 =>
  OX (iaD 2 a0 a8) fun x4 =>
  OX (ldD S 2 true x4) fun x5 =>
  OX (iaD 2 a0 a8) fun x6 =>
  OX (stD S 2 true x6 x3) fun S8 =>
  OX (iaD 2 a0 a9) fun x9 =>
  OX (stD S8 2 true x9 x5) fun S11 =>
  OX (binD .add .num a8 (.i .i64 1)) fun x12 =>
  OX (binD .sub .num a9 (.i .i64 1)) fun x13 =>
  Q .normal (mkf 34 [(0, a0), (8, x12), (9, x13), (15, .top)]) S11)
  (Q (.exit 0) (mkf 34 [(0, a0), (8, a8), (9, a9), (15, x1)]) S)
theorem e202_0 (cf : CallF) (a0 : D) (a8 : D) (a9 : D) (a15 : D) (S : Store) (Q : Ex → List D → Store → Prop) : wp cf c202_0 (fkill (mkf 34 [(0, a0), (8, a8), (9, a9), (15, a15)]) []) S Q = s202_0 cf a0 a8 a9 a15 S Q := wpS_of (by kernel_rfl)
def s202 (cf : CallF) (a0 : D) (a1 : D) (a2 : D) (a3 : D) (S : Store) (Post : D → Store → Prop) : Prop :=
  OX (binD .sub .num a2 (.i .i64 1)) fun x14 =>
  W cf (.loop [] c202_0) (mkf 34 [(0, a0), (8, a1), (9, x14), (15, .top)]) S (Qblk 0 (FinK [] Post))
theorem e202 (cf : CallF) (a0 : D) (a1 : D) (a2 : D) (a3 : D) (S : Store) (Post : D → Store → Prop) : wp cf c202 (frame0 d202 [a0, a1, a2, a3]) S (FinK d202.res Post) = s202 cf a0 a1 a2 a3 S Post := wpS_of (by kernel_rfl)
theorem f202 (a0 : D) (a1 : D) (a2 : D) (a3 : D) (S : Store) (Post : D → Store → Prop) (h : s202 (call dp) a0 a1 a2 a3 S Post) : ∃ r S', call dp 202 [a0, a1, a2, a3] S = some (r, S') ∧ Post r S' := call_s (f := d202) rfl ⟨rfl, by decide⟩ (by rw [← e202] at h; exact h)

/-! slices.partialInsertionSortCmpFunc[lineage/api.RowID] -/
def s203_r0 (cf : CallF) (a0 : D) (a1 : D) (a2 : D) (a3 : D) (a8 : D) (a9 : D) (a10 : D) (a11 : D) (a12 : D) (a16 : D) (a36 : D) (a65 : D) (a69 : D) (a84 : D) (a104 : D) (a109 : D) (a124 : D) (S : Store) (Q : Ex → List D → Store → Prop) : Prop :=
  OX (binD .sub .num a2 a9) fun x24 =>
  OX (binD .geq .num x24 (.i .i64 2)) fun x25 =>
  WB x25
  (OX (binD .add .num a9 (.i .i64 1)) fun x26 =>
  W cf (.loop [] c203_0) (mkf 141 [(0, a0), (1, a1), (2, a2), (3, a3), (8, a8), (9, a9), (10, a10), (11, .top), (12, x26), (16, a16), (36, a36), (65, .top), (69, .top), (84, .top), (104, .top), (109, a109), (124, a124)]) S (Qblk 6 Q))
  (Q .normal (mkf 141 [(0, a0), (1, a1), (2, a2), (3, a3), (8, a8), (9, a9), (10, a10), (11, .top), (12, a12), (16, a16), (36, a36), (65, .top), (69, .top), (84, .top), (104, x25), (109, a109), (124, a124)]) S)
def s203_r1 (cf : CallF) (a0 : D) (a1 : D) (a2 : D) (a3 : D) (a8 : D) (a9 : D) (a10 : D) (a11 : D) (a12 : D) (a16 : D) (a36 : D) (a65 : D) (a69 : D) (a84 : D) (a104 : D) (a109 : D) (a124 : D) (S : Store) (Q : Ex → List D → Store → Prop) : Prop :=
  OX (binD .eql .num a9 a2) fun x50 =>
  WB x50
  (Q .ret (mkf 141 [(0, .top), (1, .top), (2, .top), (3, .top), (8, (.b true)), (9, .top), (10, .top), (11, a11), (12, a12), (16, a16), (36, .top), (65, a65), (69, a69), (84, a84), (104, a104), (109, a109), (124, a124)]) S)
  (OX (binD .sub .num a2 a1) fun x51 =>
  OX (binD .lss .num x51 (.i .i64 50)) fun x52 =>
  WB x52
  (Q .ret (mkf 141 [(0, .top), (1, .top), (2, .top), (3, .top), (8, (.b false)), (9, .top), (10, .top), (11, a11), (12, a12), (16, a16), (36, .top), (65, a65), (69, a69), (84, a84), (104, a104), (109, a109), (124, a124)]) S)
  (OX (binD .sub .num a9 (.i .i64 1)) fun x53 =>
  OX (binD .sub .num a9 (.i .i64 1)) fun x54 =>
  OX (iaD 2 a0 x54) fun x55 =>
  OX (ldD S 2 true x55) fun x56 =>
  OX (iaD 2 a0 a9) fun x57 =>
  OX (ldD S 2 true x57) fun x58 =>
  OX (iaD 2 a0 a9) fun x59 =>
  OX (stD S 2 true x59 x56) fun S61 =>
  OX (iaD 2 a0 x53) fun x62 =>
  OX (stD S61 2 true x62 x58) fun S64 =>
  OX (binD .sub .num a9 a1) fun x65 =>
  OX (binD .geq .num x65 (.i .i64 2)) fun x66 =>
  WB x66
  (OX (binD .sub .num a9 (.i .i64 1)) fun x67 =>
  W cf (.loop [] c203_1) (mkf 141 [(0, a0), (1, a1), (2, a2), (3, a3), (8, a8), (9, a9), (10, a10), (11, x67), (12, a12), (16, a16), (36, .top), (65, .top), (69, a69), (84, a84), (104, a104), (109, a109), (124, a124)]) S64 (Qblk 4 (QS cf c203_r0 Q)))
  (s203_r0 cf a0 a1 a2 a3 a8 a9 a10 a11 a12 a16 D.top x66 a69 a84 a104 a109 a124 S64 Q)))
theorem e203_r1 (cf : CallF) (a0 : D) (a1 : D) (a2 : D) (a3 : D) (a8 : D) (a9 : D) (a10 : D) (a11 : D) (a12 : D) (a16 : D) (a36 : D) (a65 : D) (a69 : D) (a84 : D) (a104 : D) (a109 : D) (a124 : D) (S : Store) (Q : Ex → List D → Store → Prop) : wp cf c203_r1 (mkf 141 [(0, a0), (1, a1), (2, a2), (3, a3), (8, a8), (9, a9), (10, a10), (11, a11), (12, a12), (16, a16), (36, a36), (65, a65), (69, a69), (84, a84), (104, a104), (109, a109), (124, a124)]) S Q = s203_r1 cf a0 a1 a2 a3 a8 a9 a10 a11 a12 a16 a36 a65 a69 a84 a104 a109 a124 S Q := wpS_of (by kernel_rfl)
def s203_2 (cf : CallF) (a0 : D) (a1 : D) (a2 : D) (a3 : D) (a8 : D) (a9 : D) (a10 : D) (a11 : D) (a12 : D) (a16 : D) (a36 : D) (a65 : D) (a69 : D) (a84 : D) (a104 : D) (a109 : D) (a124 : D) (S : Store) (Q : Ex → List D → Store → Prop) : Prop :=
  OX (binD .lss .num a9 a2) fun x69 =>
  OX (gsel x69 true (some a3)) fun x70 =>
  OX (gsel x69 true (some a0)) fun x71 =>
  OX (gsel x69 true (some a9)) fun x72 =>
  OX (gsel x69 true (iaD 2 x71 x72)) fun x73 =>
  OX (gsel x69 true (ldD S 2 true x73)) fun x74 =>
  OX (gsel x69 true (some a0)) fun x75 =>
  OX (gsel x69 true (some a9)) fun x76 =>
  OX (gsel x69 true (binD .sub .num x76 (.i .i64 1))) fun x77 =>
  OX (gsel x69 true (iaD 2 x75 x77)) fun x78 =>
  OX (gsel x69 true (ldD S 2 true x78)) fun x79 =>
  OX (gsel x69 true (match fnD x70 with | some p => isoCall cf p.1 ([x74, x79] ++ p.2) | none => none)) fun x80 =>
  OX (gsel x69 true (binD .lss .num x80 (.i .i64 0))) fun x81 =>
  OX (gsel x69 true (unD .not x81)) fun x82 =>
  OX (pickD x69 x82 (.b false)) fun x83 =>
  WB x83
  (OX (binD .add .num a9 (.i .i64 1)) fun x84 =>
  Q .normal (mkf 141 [(0, a0), (1, a1), (2, a2), (3, a3), (8, a8), (9, x84), (10, a10), (11, a11), (12, a12), (16, .top), (36, .top), (65, a65), (69, a69), (84, a84), (104, a104), (109, a109), (124, a124)]) S)
  (Q (.exit 2) (mkf 141 [(0, a0), (1, a1), (2, a2), (3, a3), (8, a8), (9, a9), (10, a10), (11, a11), (12, a12), (16, .top), (36, x83), (65, a65), (69, a69), (84, a84), (104, a104), (109, a109), (124, a124)]) S)
theorem e203_2 (cf : CallF) (a0 : D) (a1 : D) (a2 : D) (a3 : D) (a8 : D) (a9 : D) (a10 : D) (a11 : D) (a12 : D) (a16 : D) (a36 : D) (a65 : D) (a69 : D) (a84 : D) (a104 : D) (a109 : D) (a124 : D) (S : Store) (Q : Ex → List D → Store → Prop) : wp cf c203_2 (fkill (mkf 141 [(0, a0), (1, a1), (2, a2), (3, a3), (8, a8), (9, a9), (10, a10), (11, a11), (12, a12), (16, a16), (36, a36), (65, a65), (69, a69), (84, a84), (104, a104), (109, a109), (124, a124)]) [16]) S Q = s203_2 cf a0 a1 a2 a3 a8 a9 a10 a11 a12 a16 a36 a65 a69 a84 a104 a109 a124 S Q := wpS_of (by kernel_rfl)
def s203_3 (cf : CallF) (a0 : D) (a1 : D) (a2 : D) (a3 : D) (a8 : D) (a9 : D) (a10 : D) (a11 : D) (a12 : D) (a16 : D) (a36 : D) (a65 : D) (a69 : D) (a84 : D) (a104 : D) (a109 : D) (a124 : D) (S : Store) (Q : Ex → List D → Store → Prop) : Prop :=
  OX (binD .lss .num a10 (.i .i64 5)) fun x85 =>
  WB x85
  (W cf (.loop [16] c203_2) (mkf 141 [(0, a0), (1, a1), (2, a2), (3, a3), (8, a8), (9, a9), (10, a10), (11, a11), (12, a12), (16, x85), (36, a36), (65, a65), (69, a69), (84, a84), (104, a104), (109, a109), (124, a124)]) S (Qblk 2 (QS cf c203_r1 (Qblk 1 (QS cf c203_r2 Q)))))
  (Q (.exit 0) (mkf 141 [(0, a0), (1, a1), (2, a2), (3, a3), (8, a8), (9, a9), (10, a10), (11, a11), (12, a12), (16, x85), (36, a36), (65, a65), (69, a69), (84, a84), (104, a104), (109, a109), (124, a124)]) S)
theorem e203_3 (cf : CallF) (a0 : D) (a1 : D) (a2 : D) (a3 : D) (a8 : D) (a9 : D) (a10 : D) (a11 : D) (a12 : D) (a16 : D) (a36 : D) (a65 : D) (a69 : D) (a84 : D) (a104 : D) (a109 : D) (a124 : D) (S : Store) (Q : Ex → List D → Store → Prop) : wp cf c203_3 (fkill (mkf 141 [(0, a0), (1, a1), (2, a2), (3, a3), (8, a8), (9, a9), (10, a10), (11, a11), (12, a12), (16, a16), (36, a36), (65, a65), (69, a69), (84, a84), (104, a104), (109, a109), (124, a124)]) []) S Q = s203_3 cf a0 a1 a2 a3 a8 a9 a10 a11 a12 a16 a36 a65 a69 a84 a104 a109 a124 S Q := wpS_of (by kernel_rfl)
def s203 (cf : CallF) (a0 : D) (a1 : D) (a2 : D) (a3 : D) (S : Store) (Post : D → Store → Prop) : Prop :=
  OX (binD .add .num a1 (.i .i64 1)) fun x86 =>
  W cf (.loop [] c203_3) (mkf 141 [(0, a0), (1, a1), (2, a2), (3, a3), (8, .top), (9, x86), (10, (.i .i64 0)), (11, .top), (12, .top), (16, .top), (36, .top), (65, .top), (69, .top), (84, .top), (104, .top), (109, .top), (124, .top)]) S (Qblk 0 (QS cf c203_r3 (FinK [.t 8] Post)))
theorem e203 (cf : CallF) (a0 : D) (a1 : D) (a2 : D) (a3 : D) (S : Store) (Post : D → Store → Prop) : wp cf c203 (frame0 d203 [a0, a1, a2, a3]) S (FinK d203.res Post) = s203 cf a0 a1 a2 a3 S Post := wpS_of (by kernel_rfl)
theorem f203 (a0 : D) (a1 : D) (a2 : D) (a3 : D) (S : Store) (Post : D → Store → Prop) (h : s203 (call dp) a0 a1 a2 a3 S Post) : ∃ r S', call dp 203 [a0, a1, a2, a3] S = some (r, S') ∧ Post r S' := call_s (f := d203) rfl ⟨rfl, by decide⟩ (by rw [← e203] at h; exact h)

/-! slices.partitionEqualCmpFunc[lineage/api.RowID] -/
def s204_r0 (cf : CallF) (a0 : D) (a1 : D) (a4 : D) (a10 : D) (a11 : D) (a12 : D) (a47 : D) (a65 : D) (a70 : D) (S : Store) (Q : Ex → List D → Store → Prop) : Prop :=
  OX (binD .gtr .num a11 a12) fun x1 =>
  WB x1
  (Q (.exit 0) (mkf 90 [(0, a0), (1, a1), (4, a4), (10, a10), (11, a11), (12, a12), (47, a47), (65, .top), (70, x1)]) S)
  (OX (iaD 2 a0 a12) fun x2 =>
  OX (ldD S 2 true x2) fun x3 =>
  OX (iaD 2 a0 a11) fun x4 =>
  OX (ldD S 2 true x4) fun x5 =>
  OX (iaD 2 a0 a11) fun x6 =>
  OX (stD S 2 true x6 x3) fun S8 =>
  OX (iaD 2 a0 a12) fun x9 =>
  OX (stD S8 2 true x9 x5) fun S11 =>
  OX (binD .add .num a11 (.i .i64 1)) fun x12 =>
  OX (binD .sub .num a12 (.i .i64 1)) fun x13 =>
  Q .normal (mkf 90 [(0, a0), (1, a1), (4, a4), (10, a10), (11, x12), (12, x13), (47, a47), (65, .top), (70, .top)]) S11)
theorem e204_r0 (cf : CallF) (a0 : D) (a1 : D) (a4 : D) (a10 : D) (a11 : D) (a12 : D) (a47 : D) (a65 : D) (a70 : D) (S : Store) (Q : Ex → List D → Store → Prop) : wp cf c204_r0 (mkf 90 [(0, a0), (1, a1), (4, a4), (10, a10), (11, a11), (12, a12), (47, a47), (65, a65), (70, a70)]) S Q = s204_r0 cf a0 a1 a4 a10 a11 a12 a47 a65 a70 S Q := wpS_of (by kernel_rfl)
def s204_0 (cf : CallF) (a0 : D) (a1 : D) (a4 : D) (a10 : D) (a11 : D) (a12 : D) (a47 : D) (a65 : D) (a70 : D) (S : Store) (Q : Ex → List D → Store → Prop) : Prop :=
  OX (binD .leq .num a11 a12) fun x14 =>
  OX (gsel x14 true (some a4)) fun x15 =>
  OX (gsel x14 true (some a0)) fun x16 =>
  OX (gsel x14 true (some a1)) fun x17 =>
  OX (gsel x14 true (iaD 2 x16 x17)) fun x18 =>
  OX (gsel x14 true (ldD S 2 true x18)) fun x19 =>
  OX (gsel x14 true (some a0)) fun x20 =>
  OX (gsel x14 true (some a12)) fun x21 =>
  OX (gsel x14 true (iaD 2 x20 x21)) fun x22 =>
  OX (gsel x14 true (ldD S 2 true x22)) fun x23 =>
  OX (gsel x14 true (match fnD x15 with | some p => isoCall cf p.1 ([x19, x23] ++ p.2) | none => none)) fun x24 =>
  OX (gsel x14 true (binD .lss .num x24 (.i .i64 0))) fun x25 =>
  OX (pickD x14 x25 (.b false)) fun x26 =>
  WB x26
  (OX (binD .sub .num a12 (.i .i64 1)) fun x27 =>
  Q .normal (mkf 90 [(0, a0), (1, a1), (4, a4), (10, a10), (11, a11), (12, x27), (47, .top), (65, .top), (70, a70)]) S)
  (Q (.exit 4) (mkf 90 [(0, a0), (1, a1), (4, a4), (10, a10), (11, a11), (12, a12), (47, .top), (65, x26), (70, a70)]) S)
theorem e204_0 (cf : CallF) (a0 : D) (a1 : D) (a4 : D) (a10 : D) (a11 : D) (a12 : D) (a47 : D) (a65 : D) (a70 : D) (S : Store) (Q : Ex → List D → Store → Prop) : wp cf c204_0 (fkill (mkf 90 [(0, a0), (1, a1), (4, a4), (10, a10), (11, a11), (12, a12), (47, a47), (65, a65), (70, a70)]) [47]) S Q = s204_0 cf a0 a1 a4 a10 a11 a12 a47 a65 a70 S Q := wpS_of (by kernel_rfl)
def s204_r1 (cf : CallF) (a0 : D) (a1 : D) (a4 : D) (a10 : D) (a11 : D) (a12 : D) (a47 : D) (a65 : D) (a70 : D) (S : Store) (Q : Ex → List D → Store → Prop) : Prop :=
  W cf (.loop [47] c204_0) (mkf 90 [(0, a0), (1, a1), (4, a4), (10, a10), (11, a11), (12, a12), (47, a47), (65, a65), (70, a70)]) S (Qblk 4 (QS cf c204_r0 Q))
theorem e204_r1 (cf : CallF) (a0 : D) (a1 : D) (a4 : D) (a10 : D) (a11 : D) (a12 : D) (a47 : D) (a65 : D) (a70 : D) (S : Store) (Q : Ex → List D → Store → Prop) : wp cf c204_r1 (mkf 90 [(0, a0), (1, a1), (4, a4), (10, a10), (11, a11), (12, a12), (47, a47), (65, a65), (70, a70)]) S Q = s204_r1 cf a0 a1 a4 a10 a11 a12 a47 a65 a70 S Q := wpS_of (by kernel_rfl)
def s204_1 (cf : CallF) (a0 : D) (a1 : D) (a4 : D) (a10 : D) (a11 : D) (a12 : D) (a47 : D) (a65 : D) (a70 : D) (S : Store) (Q : Ex → List D → Store → Prop) : Prop :=
  OX (binD .leq .num a11 a12) fun x28 =>
  OX (gsel x28 true (some a4)) fun x29 =>
  OX (gsel x28 true (some a0)) fun x30 =>
  OX (gsel x28 true (some a1)) fun x31 =>
  OX (gsel x28 true (iaD 2 x30 x31)) fun x32 =>
  OX (gsel x28 true (ldD S 2 true x32)) fun x33 =>
  OX (gsel x28 true (some a0)) fun x34 =>
  OX (gsel x28 true (some a11)) fun x35 =>
  OX (gsel x28 true (iaD 2 x34 x35)) fun x36 =>
  OX (gsel x28 true (ldD S 2 true x36)) fun x37 =>
  OX (gsel x28 true (match fnD x29 with | some p => isoCall cf p.1 ([x33, x37] ++ p.2) | none => none)) fun x38 =>
  OX (gsel x28 true (binD .lss .num x38 (.i .i64 0))) fun x39 =>
  OX (gsel x28 true (unD .not x39)) fun x40 =>
  OX (pickD x28 x40 (.b false)) fun x41 =>
  WB x41
  (OX (binD .add .num a11 (.i .i64 1)) fun x42 =>
  Q .normal (mkf 90 [(0, a0), (1, a1), (4, a4), (10, a10), (11, x42), (12, a12), (47, .top), (65, a65), (70, a70)]) S)
  (Q (.exit 2) (mkf 90 [(0, a0), (1, a1), (4, a4), (10, a10), (11, a11), (12, a12), (47, x41), (65, a65), (70, a70)]) S)
theorem e204_1 (cf : CallF) (a0 : D) (a1 : D) (a4 : D) (a10 : D) (a11 : D) (a12 : D) (a47 : D) (a65 : D) (a70 : D) (S : Store) (Q : Ex → List D → Store → Prop) : wp cf c204_1 (fkill (mkf 90 [(0, a0), (1, a1), (4, a4), (10, a10), (11, a11), (12, a12), (47, a47), (65, a65), (70, a70)]) []) S Q = s204_1 cf a0 a1 a4 a10 a11 a12 a47 a65 a70 S Q := wpS_of (by kernel_rfl)
def s204_r2 (cf : CallF) (a0 : D) (a1 : D) (a4 : D) (a10 : D) (a11 : D) (a12 : D) (a47 : D) (a65 : D) (a70 : D) (S : Store) (Q : Ex → List D → Store → Prop) : Prop :=
  Q .ret (mkf 90 [(0, .top), (1, .top), (4, .top), (10, a11), (11, .top), (12, .top), (47, a47), (65, a65), (70, .top)]) S
theorem e204_r2 (cf : CallF) (a0 : D) (a1 : D) (a4 : D) (a10 : D) (a11 : D) (a12 : D) (a47 : D) (a65 : D) (a70 : D) (S : Store) (Q : Ex → List D → Store → Prop) : wp cf c204_r2 (mkf 90 [(0, a0), (1, a1), (4, a4), (10, a10), (11, a11), (12, a12), (47, a47), (65, a65), (70, a70)]) S Q = s204_r2 cf a0 a1 a4 a10 a11 a12 a47 a65 a70 S Q := wpS_of (by kernel_rfl)
def s204_2 (cf : CallF) (a0 : D) (a1 : D) (a4 : D) (a10 : D) (a11 : D) (a12 : D) (a47 : D) (a65 : D) (a70 : D) (S : Store) (Q : Ex → List D → Store → Prop) : Prop :=
  W cf (.loop [] c204_1) (mkf 90 [(0, a0), (1, a1), (4, a4), (10, a10), (11, a11), (12, a12), (47, a47), (65, a65), (70, a70)]) S (Qblk 2 (QS cf c204_r1 (Qblk 1 Q)))
theorem e204_2 (cf : CallF) (a0 : D) (a1 : D) (a4 : D) (a10 : D) (a11 : D) (a12 : D) (a47 : D) (a65 : D) (a70 : D) (S : Store) (Q : Ex → List D → Store → Prop) : wp cf c204_2 (fkill (mkf 90 [(0, a0), (1, a1), (4, a4), (10, a10), (11, a11), (12, a12), (47, a47), (65, a65), (70, a70)]) []) S Q = s204_2 cf a0 a1 a4 a10 a11 a12 a47 a65 a70 S Q := wpS_of (by kernel_rfl)
def s204 (cf : CallF) (a0 : D) (a1 : D) (a2 : D) (a3 : D) (a4 : D) (S : Store) (Post : D → Store → Prop) : Prop :=
  OX (iaD 2 a0 a3) fun x43 =>
  OX (ldD S 2 true x43) fun x44 =>
  OX (iaD 2 a0 a1) fun x45 =>
  OX (ldD S 2 true x45) fun x46 =>
  OX (iaD 2 a0 a1) fun x47 =>
  OX (stD S 2 true x47 x44) fun S49 =>
  OX (iaD 2 a0 a3) fun x50 =>
  OX (stD S49 2 true x50 x46) fun S52 =>
  OX (binD .add .num a1 (.i .i64 1)) fun x53 =>
  OX (binD .sub .num a2 (.i .i64 1)) fun x54 =>
  W cf (.loop [] c204_2) (mkf 90 [(0, a0), (1, a1), (4, a4), (10, .top), (11, x53), (12, x54), (47, .top), (65, .top), (70, .top)]) S52 (Qblk 0 (QS cf c204_r2 (FinK [.t 10] Post)))
theorem e204 (cf : CallF) (a0 : D) (a1 : D) (a2 : D) (a3 : D) (a4 : D) (S : Store) (Post : D → Store → Prop) : wp cf c204 (frame0 d204 [a0, a1, a2, a3, a4]) S (FinK d204.res Post) = s204 cf a0 a1 a2 a3 a4 S Post := wpS_of (by kernel_rfl)
theorem f204 (a0 : D) (a1 : D) (a2 : D) (a3 : D) (a4 : D) (S : Store) (Post : D → Store → Prop) (h : s204 (call dp) a0 a1 a2 a3 a4 S Post) : ∃ r S', call dp 204 [a0, a1, a2, a3, a4] S = some (r, S') ∧ Post r S' := call_s (f := d204) rfl ⟨rfl, by decide⟩ (by rw [← e204] at h; exact h)

/-! slices.partitionCmpFunc[lineage/api.RowID] -/
def s205_r0 (cf : CallF) (a0 : D) (a1 : D) (a4 : D) (a10 : D) (a11 : D) (a12 : D) (a13 : D) (a47 : D) (a66 : D) (a120 : D) (a139 : D) (a144 : D) (S : Store) (Q : Ex → List D → Store → Prop) : Prop :=
  OX (binD .gtr .num a12 a13) fun x1 =>
  WB x1
  (Q (.exit 4) (mkf 178 [(0, a0), (1, a1), (4, a4), (10, a10), (11, a11), (12, a12), (13, a13), (47, a47), (66, a66), (120, a120), (139, .top), (144, x1)]) S)
  (OX (iaD 2 a0 a13) fun x2 =>
  OX (ldD S 2 true x2) fun x3 =>
  OX (iaD 2 a0 a12) fun x4 =>
  OX (ldD S 2 true x4) fun x5 =>
  OX (iaD 2 a0 a12) fun x6 =>
  OX (stD S 2 true x6 x3) fun S8 =>
  OX (iaD 2 a0 a13) fun x9 =>
  OX (stD S8 2 true x9 x5) fun S11 =>
  OX (binD .add .num a12 (.i .i64 1)) fun x12 =>
  OX (binD .sub .num a13 (.i .i64 1)) fun x13 =>
  Q .normal (mkf 178 [(0, a0), (1, a1), (4, a4), (10, a10), (11, a11), (12, x12), (13, x13), (47, a47), (66, a66), (120, a120), (139, .top), (144, .top)]) S11)
theorem e205_r0 (cf : CallF) (a0 : D) (a1 : D) (a4 : D) (a10 : D) (a11 : D) (a12 : D) (a13 : D) (a47 : D) (a66 : D) (a120 : D) (a139 : D) (a144 : D) (S : Store) (Q : Ex → List D → Store → Prop) : wp cf c205_r0 (mkf 178 [(0, a0), (1, a1), (4, a4), (10, a10), (11, a11), (12, a12), (13, a13), (47, a47), (66, a66), (120, a120), (139, a139), (144, a144)]) S Q = s205_r0 cf a0 a1 a4 a10 a11 a12 a13 a47 a66 a120 a139 a144 S Q := wpS_of (by kernel_rfl)
def s205_0 (cf : CallF) (a0 : D) (a1 : D) (a4 : D) (a10 : D) (a11 : D) (a12 : D) (a13 : D) (a47 : D) (a66 : D) (a120 : D) (a139 : D) (a144 : D) (S : Store) (Q : Ex → List D → Store → Prop) : Prop :=
  OX (binD .leq .num a12 a13) fun x14 =>
  OX (gsel x14 true (some a4)) fun x15 =>
  OX (gsel x14 true (some a0)) fun x16 =>
  OX (gsel x14 true (some a13)) fun x17 =>
  OX (gsel x14 true (iaD 2 x16 x17)) fun x18 =>
  OX (gsel x14 true (ldD S 2 true x18)) fun x19 =>
  OX (gsel x14 true (some a0)) fun x20 =>
  OX (gsel x14 true (some a1)) fun x21 =>
  OX (gsel x14 true (iaD 2 x20 x21)) fun x22 =>
  OX (gsel x14 true (ldD S 2 true x22)) fun x23 =>
  OX (gsel x14 true (match fnD x15 with | some p => isoCall cf p.1 ([x19, x23] ++ p.2) | none => none)) fun x24 =>
  OX (gsel x14 true (binD .lss .num x24 (.i .i64 0))) fun x25 =>
  OX (gsel x14 true (unD .not x25)) fun x26 =>
  OX (pickD x14 x26 (.b false)) fun x27 =>
  WB x27
  (OX (binD .sub .num a13 (.i .i64 1)) fun x28 =>
  Q .normal (mkf 178 [(0, a0), (1, a1), (4, a4), (10, a10), (11, a11), (12, a12), (13, x28), (47, a47), (66, a66), (120, .top), (139, .top), (144, a144)]) S)
  (Q (.exit 8) (mkf 178 [(0, a0), (1, a1), (4, a4), (10, a10), (11, a11), (12, a12), (13, a13), (47, a47), (66, a66), (120, .top), (139, x27), (144, a144)]) S)
theorem e205_0 (cf : CallF) (a0 : D) (a1 : D) (a4 : D) (a10 : D) (a11 : D) (a12 : D) (a13 : D) (a47 : D) (a66 : D) (a120 : D) (a139 : D) (a144 : D) (S : Store) (Q : Ex → List D → Store → Prop) : wp cf c205_0 (fkill (mkf 178 [(0, a0), (1, a1), (4, a4), (10, a10), (11, a11), (12, a12), (13, a13), (47, a47), (66, a66), (120, a120), (139, a139), (144, a144)]) [120]) S Q = s205_0 cf a0 a1 a4 a10 a11 a12 a13 a47 a66 a120 a139 a144 S Q := wpS_of (by kernel_rfl)
def s205_r1 (cf : CallF) (a0 : D) (a1 : D) (a4 : D) (a10 : D) (a11 : D) (a12 : D) (a13 : D) (a47 : D) (a66 : D) (a120 : D) (a139 : D) (a144 : D) (S : Store) (Q : Ex → List D → Store → Prop) : Prop :=
  W cf (.loop [120] c205_0) (mkf 178 [(0, a0), (1, a1), (4, a4), (10, a10), (11, a11), (12, a12), (13, a13), (47, a47), (66, a66), (120, a120), (139, a139), (144, a144)]) S (Qblk 8 (QS cf c205_r0 Q))
theorem e205_r1 (cf : CallF) (a0 : D) (a1 : D) (a4 : D) (a10 : D) (a11 : D) (a12 : D) (a13 : D) (a47 : D) (a66 : D) (a120 : D) (a139 : D) (a144 : D) (S : Store) (Q : Ex → List D → Store → Prop) : wp cf c205_r1 (mkf 178 [(0, a0), (1, a1), (4, a4), (10, a10), (11, a11), (12, a12), (13, a13), (47, a47), (66, a66), (120, a120), (139, a139), (144, a144)]) S Q = s205_r1 cf a0 a1 a4 a10 a11 a12 a13 a47 a66 a120 a139 a144 S Q := wpS_of (by kernel_rfl)
def s205_1 (cf : CallF) (a0 : D) (a1 : D) (a4 : D) (a10 : D) (a11 : D) (a12 : D) (a13 : D) (a47 : D) (a66 : D) (a120 : D) (a139 : D) (a144 : D) (S : Store) (Q : Ex → List D → Store → Prop) : Prop :=
  OX (binD .leq .num a12 a13) fun x29 =>
  OX (gsel x29 true (some a4)) fun x30 =>
  OX (gsel x29 true (some a0)) fun x31 =>
  OX (gsel x29 true (some a12)) fun x32 =>
  OX (gsel x29 true (iaD 2 x31 x32)) fun x33 =>
  OX (gsel x29 true (ldD S 2 true x33)) fun x34 =>
  OX (gsel x29 true (some a0)) fun x35 =>
  OX (gsel x29 true (some a1)) fun x36 =>
  OX (gsel x29 true (iaD 2 x35 x36)) fun x37 =>
  OX (gsel x29 true (ldD S 2 true x37)) fun x38 =>
  OX (gsel x29 true (match fnD x30 with | some p => isoCall cf p.1 ([x34, x38] ++ p.2) | none => none)) fun x39 =>
  OX (gsel x29 true (binD .lss .num x39 (.i .i64 0))) fun x40 =>
  OX (pickD x29 x40 (.b false)) fun x41 =>
  WB x41
  (OX (binD .add .num a12 (.i .i64 1)) fun x42 =>
  Q .normal (mkf 178 [(0, a0), (1, a1), (4, a4), (10, a10), (11, a11), (12, x42), (13, a13), (47, a47), (66, a66), (120, .top), (139, a139), (144, a144)]) S)
  (Q (.exit 6) (mkf 178 [(0, a0), (1, a1), (4, a4), (10, a10), (11, a11), (12, a12), (13, a13), (47, a47), (66, a66), (120, x41), (139, a139), (144, a144)]) S)
theorem e205_1 (cf : CallF) (a0 : D) (a1 : D) (a4 : D) (a10 : D) (a11 : D) (a12 : D) (a13 : D) (a47 : D) (a66 : D) (a120 : D) (a139 : D) (a144 : D) (S : Store) (Q : Ex → List D → Store → Prop) : wp cf c205_1 (fkill (mkf 178 [(0, a0), (1, a1), (4, a4), (10, a10), (11, a11), (12, a12), (13, a13), (47, a47), (66, a66), (120, a120), (139, a139), (144, a144)]) []) S Q = s205_1 cf a0 a1 a4 a10 a11 a12 a13 a47 a66 a120 a139 a144 S Q := wpS_of (by kernel_rfl)
def s205_r2 (cf : CallF) (a0 : D) (a1 : D) (a4 : D) (a10 : D) (a11 : D) (a12 : D) (a13 : D) (a47 : D) (a66 : D) (a120 : D) (a139 : D) (a144 : D) (S : Store) (Q : Ex → List D → Store → Prop) : Prop :=
  OX (iaD 2 a0 a1) fun x43 =>
  OX (ldD S 2 true x43) fun x44 =>
  OX (iaD 2 a0 a13) fun x45 =>
  OX (ldD S 2 true x45) fun x46 =>
  OX (iaD 2 a0 a13) fun x47 =>
  OX (stD S 2 true x47 x44) fun S49 =>
  OX (iaD 2 a0 a1) fun x50 =>
  OX (stD S49 2 true x50 x46) fun S52 =>
  Q .ret (mkf 178 [(0, .top), (1, .top), (4, .top), (10, a13), (11, (.b false)), (12, .top), (13, .top), (47, a47), (66, a66), (120, a120), (139, a139), (144, .top)]) S52
theorem e205_r2 (cf : CallF) (a0 : D) (a1 : D) (a4 : D) (a10 : D) (a11 : D) (a12 : D) (a13 : D) (a47 : D) (a66 : D) (a120 : D) (a139 : D) (a144 : D) (S : Store) (Q : Ex → List D → Store → Prop) : wp cf c205_r2 (mkf 178 [(0, a0), (1, a1), (4, a4), (10, a10), (11, a11), (12, a12), (13, a13), (47, a47), (66, a66), (120, a120), (139, a139), (144, a144)]) S Q = s205_r2 cf a0 a1 a4 a10 a11 a12 a13 a47 a66 a120 a139 a144 S Q := wpS_of (by kernel_rfl)
def s205_2 (cf : CallF) (a0 : D) (a1 : D) (a4 : D) (a10 : D) (a11 : D) (a12 : D) (a13 : D) (a47 : D) (a66 : D) (a120 : D) (a139 : D) (a144 : D) (S : Store) (Q : Ex → List D → Store → Prop) : Prop :=
  W cf (.loop [] c205_1) (mkf 178 [(0, a0), (1, a1), (4, a4), (10, a10), (11, a11), (12, a12), (13, a13), (47, a47), (66, a66), (120, a120), (139, a139), (144, a144)]) S (Qblk 6 (QS cf c205_r1 (Qblk 5 Q)))
theorem e205_2 (cf : CallF) (a0 : D) (a1 : D) (a4 : D) (a10 : D) (a11 : D) (a12 : D) (a13 : D) (a47 : D) (a66 : D) (a120 : D) (a139 : D) (a144 : D) (S : Store) (Q : Ex → List D → Store → Prop) : wp cf c205_2 (fkill (mkf 178 [(0, a0), (1, a1), (4, a4), (10, a10), (11, a11), (12, a12), (13, a13), (47, a47), (66, a66), (120, a120), (139, a139), (144, a144)]) []) S Q = s205_2 cf a0 a1 a4 a10 a11 a12 a13 a47 a66 a120 a139 a144 S Q := wpS_of (by kernel_rfl)
def s205_r3 (cf : CallF) (a0 : D) (a1 : D) (a4 : D) (a10 : D) (a11 : D) (a12 : D) (a13 : D) (a47 : D) (a66 : D) (a120 : D) (a139 : D) (a144 : D) (S : Store) (Q : Ex → List D → Store → Prop) : Prop :=
  OX (binD .gtr .num a12 a13) fun x53 =>
  WB x53
  (OX (iaD 2 a0 a1) fun x54 =>
  OX (ldD S 2 true x54) fun x55 =>
  OX (iaD 2 a0 a13) fun x56 =>
  OX (ldD S 2 true x56) fun x57 =>
  OX (iaD 2 a0 a13) fun x58 =>
  OX (stD S 2 true x58 x55) fun S60 =>
  OX (iaD 2 a0 a1) fun x61 =>
  OX (stD S60 2 true x61 x57) fun S63 =>
  Q .ret (mkf 178 [(0, .top), (1, .top), (4, .top), (10, a13), (11, (.b true)), (12, .top), (13, .top), (47, a47), (66, .top), (120, a120), (139, a139), (144, a144)]) S63)
  (OX (iaD 2 a0 a13) fun x64 =>
  OX (ldD S 2 true x64) fun x65 =>
  OX (iaD 2 a0 a12) fun x66 =>
  OX (ldD S 2 true x66) fun x67 =>
  OX (iaD 2 a0 a12) fun x68 =>
  OX (stD S 2 true x68 x65) fun S70 =>
  OX (iaD 2 a0 a13) fun x71 =>
  OX (stD S70 2 true x71 x67) fun S73 =>
  OX (binD .add .num a12 (.i .i64 1)) fun x74 =>
  OX (binD .sub .num a13 (.i .i64 1)) fun x75 =>
  W cf (.loop [] c205_2) (mkf 178 [(0, a0), (1, a1), (4, a4), (10, a10), (11, a11), (12, x74), (13, x75), (47, a47), (66, .top), (120, a120), (139, a139), (144, a144)]) S73 (Qblk 4 (QS cf c205_r2 Q)))
theorem e205_r3 (cf : CallF) (a0 : D) (a1 : D) (a4 : D) (a10 : D) (a11 : D) (a12 : D) (a13 : D) (a47 : D) (a66 : D) (a120 : D) (a139 : D) (a144 : D) (S : Store) (Q : Ex → List D → Store → Prop) : wp cf c205_r3 (mkf 178 [(0, a0), (1, a1), (4, a4), (10, a10), (11, a11), (12, a12), (13, a13), (47, a47), (66, a66), (120, a120), (139, a139), (144, a144)]) S Q = s205_r3 cf a0 a1 a4 a10 a11 a12 a13 a47 a66 a120 a139 a144 S Q := wpS_of (by kernel_rfl)
def s205_3 (cf : CallF) (a0 : D) (a1 : D) (a4 : D) (a10 : D) (a11 : D) (a12 : D) (a13 : D) (a47 : D) (a66 : D) (a120 : D) (a139 : D) (a144 : D) (S : Store) (Q : Ex → List D → Store → Prop) : Prop :=
  OX (binD .leq .num a12 a13) fun x76 =>
  OX (gsel x76 true (some a4)) fun x77 =>
  OX (gsel x76 true (some a0)) fun x78 =>
  OX (gsel x76 true (some a13)) fun x79 =>
  OX (gsel x76 true (iaD 2 x78 x79)) fun x80 =>
  OX (gsel x76 true (ldD S 2 true x80)) fun x81 =>
  OX (gsel x76 true (some a0)) fun x82 =>
  OX (gsel x76 true (some a1)) fun x83 =>
  OX (gsel x76 true (iaD 2 x82 x83)) fun x84 =>
  OX (gsel x76 true (ldD S 2 true x84)) fun x85 =>
  OX (gsel x76 true (match fnD x77 with | some p => isoCall cf p.1 ([x81, x85] ++ p.2) | none => none)) fun x86 =>
  OX (gsel x76 true (binD .lss .num x86 (.i .i64 0))) fun x87 =>
  OX (gsel x76 true (unD .not x87)) fun x88 =>
  OX (pickD x76 x88 (.b false)) fun x89 =>
  WB x89
  (OX (binD .sub .num a13 (.i .i64 1)) fun x90 =>
  Q .normal (mkf 178 [(0, a0), (1, a1), (4, a4), (10, a10), (11, a11), (12, a12), (13, x90), (47, .top), (66, .top), (120, a120), (139, a139), (144, a144)]) S)
  (Q (.exit 2) (mkf 178 [(0, a0), (1, a1), (4, a4), (10, a10), (11, a11), (12, a12), (13, a13), (47, .top), (66, x89), (120, a120), (139, a139), (144, a144)]) S)
theorem e205_3 (cf : CallF) (a0 : D) (a1 : D) (a4 : D) (a10 : D) (a11 : D) (a12 : D) (a13 : D) (a47 : D) (a66 : D) (a120 : D) (a139 : D) (a144 : D) (S : Store) (Q : Ex → List D → Store → Prop) : wp cf c205_3 (fkill (mkf 178 [(0, a0), (1, a1), (4, a4), (10, a10), (11, a11), (12, a12), (13, a13), (47, a47), (66, a66), (120, a120), (139, a139), (144, a144)]) [47]) S Q = s205_3 cf a0 a1 a4 a10 a11 a12 a13 a47 a66 a120 a139 a144 S Q := wpS_of (by kernel_rfl)
def s205_r4 (cf : CallF) (a0 : D) (a1 : D) (a4 : D) (a10 : D) (a11 : D) (a12 : D) (a13 : D) (a47 : D) (a66 : D) (a120 : D) (a139 : D) (a144 : D) (S : Store) (Q : Ex → List D → Store → Prop) : Prop :=
  W cf (.loop [47] c205_3) (mkf 178 [(0, a0), (1, a1), (4, a4), (10, a10), (11, a11), (12, a12), (13, a13), (47, a47), (66, a66), (120, a120), (139, a139), (144, a144)]) S (Qblk 2 (QS cf c205_r3 Q))
theorem e205_r4 (cf : CallF) (a0 : D) (a1 : D) (a4 : D) (a10 : D) (a11 : D) (a12 : D) (a13 : D) (a47 : D) (a66 : D) (a120 : D) (a139 : D) (a144 : D) (S : Store) (Q : Ex → List D → Store → Prop) : wp cf c205_r4 (mkf 178 [(0, a0), (1, a1), (4, a4), (10, a10), (11, a11), (12, a12), (13, a13), (47, a47), (66, a66), (120, a120), (139, a139), (144, a144)]) S Q = s205_r4 cf a0 a1 a4 a10 a11 a12 a13 a47 a66 a120 a139 a144 S Q := wpS_of (by kernel_rfl)
def s205_4 (cf : CallF) (a0 : D) (a1 : D) (a4 : D) (a10 : D) (a11 : D) (a12 : D) (a13 : D) (a47 : D) (a66 : D) (a120 : D) (a139 : D) (a144 : D) (S : Store) (Q : Ex → List D → Store → Prop) : Prop :=
  OX (binD .leq .num a12 a13) fun x91 =>
  OX (gsel x91 true (some a4)) fun x92 =>
  OX (gsel x91 true (some a0)) fun x93 =>
  OX (gsel x91 true (some a12)) fun x94 =>
  OX (gsel x91 true (iaD 2 x93 x94)) fun x95 =>
  OX (gsel x91 true (ldD S 2 true x95)) fun x96 =>
  OX (gsel x91 true (some a0)) fun x97 =>
  OX (gsel x91 true (some a1)) fun x98 =>
  OX (gsel x91 true (iaD 2 x97 x98)) fun x99 =>
  OX (gsel x91 true (ldD S 2 true x99)) fun x100 =>
  OX (gsel x91 true (match fnD x92 with | some p => isoCall cf p.1 ([x96, x100] ++ p.2) | none => none)) fun x101 =>
  OX (gsel x91 true (binD .lss .num x101 (.i .i64 0))) fun x102 =>
  OX (pickD x91 x102 (.b false)) fun x103 =>
  WB x103
  (OX (binD .add .num a12 (.i .i64 1)) fun x104 =>
  Q .normal (mkf 178 [(0, a0), (1, a1), (4, a4), (10, a10), (11, a11), (12, x104), (13, a13), (47, .top), (66, a66), (120, a120), (139, a139), (144, a144)]) S)
  (Q (.exit 0) (mkf 178 [(0, a0), (1, a1), (4, a4), (10, a10), (11, a11), (12, a12), (13, a13), (47, x103), (66, a66), (120, a120), (139, a139), (144, a144)]) S)
theorem e205_4 (cf : CallF) (a0 : D) (a1 : D) (a4 : D) (a10 : D) (a11 : D) (a12 : D) (a13 : D) (a47 : D) (a66 : D) (a120 : D) (a139 : D) (a144 : D) (S : Store) (Q : Ex → List D → Store → Prop) : wp cf c205_4 (fkill (mkf 178 [(0, a0), (1, a1), (4, a4), (10, a10), (11, a11), (12, a12), (13, a13), (47, a47), (66, a66), (120, a120), (139, a139), (144, a144)]) []) S Q = s205_4 cf a0 a1 a4 a10 a11 a12 a13 a47 a66 a120 a139 a144 S Q := wpS_of (by kernel_rfl)
def s205 (cf : CallF) (a0 : D) (a1 : D) (a2 : D) (a3 : D) (a4 : D) (S : Store) (Post : D → Store → Prop) : Prop :=
  OX (iaD 2 a0 a3) fun x105 =>
  OX (ldD S 2 true x105) fun x106 =>
  OX (iaD 2 a0 a1) fun x107 =>
  OX (ldD S 2 true x107) fun x108 =>
  OX (iaD 2 a0 a1) fun x109 =>
  OX (stD S 2 true x109 x106) fun S111 =>
  OX (iaD 2 a0 a3) fun x112 =>
  OX (stD S111 2 true x112 x108) fun S114 =>
  OX (binD .add .num a1 (.i .i64 1)) fun x115 =>
  OX (binD .sub .num a2 (.i .i64 1)) fun x116 =>
  W cf (.loop [] c205_4) (mkf 178 [(0, a0), (1, a1), (4, a4), (10, .top), (11, .top), (12, x115), (13, x116), (47, .top), (66, .top), (120, .top), (139, .top), (144, .top)]) S114 (Qblk 0 (QS cf c205_r4 (FinK [.t 10, .t 11] Post)))
theorem e205 (cf : CallF) (a0 : D) (a1 : D) (a2 : D) (a3 : D) (a4 : D) (S : Store) (Post : D → Store → Prop) : wp cf c205 (frame0 d205 [a0, a1, a2, a3, a4]) S (FinK d205.res Post) = s205 cf a0 a1 a2 a3 a4 S Post := wpS_of (by kernel_rfl)
theorem f205 (a0 : D) (a1 : D) (a2 : D) (a3 : D) (a4 : D) (S : Store) (Post : D → Store → Prop) (h : s205 (call dp) a0 a1 a2 a3 a4 S Post) : ∃ r S', call dp 205 [a0, a1, a2, a3, a4] S = some (r, S') ∧ Post r S' := call_s (f := d205) rfl ⟨rfl, by decide⟩ (by rw [← e205] at h; exact h)

/-! slices.pdqsortCmpFunc[lineage/api.RowID] -/
def s174_0 (cf : CallF) (a0 : D) (a1 : D) (a2 : D) (a3 : D) (a4 : D) (a10 : D) (a11 : D) (a12 : D) (a13 : D) (a80 : D) (S : Store) (Q : Ex → List D → Store → Prop) : Prop :=
  OX (binD .sub .num a2 a1) fun x1 =>
  OX (binD .leq .num x1 (.i .i64 12)) fun x2 =>
  WB x2
  (OX (cf 198 [a0, a1, a2, a4] S) fun p4 =>
  Q .ret (mkf 148 [(0, .top), (1, .top), (2, .top), (3, .top), (4, .top), (10, .top), (11, .top), (12, .top), (13, a13), (80, a80)]) p4.2)
  (OX (binD .eql .num a3 (.i .i64 0)) fun x5 =>
  WB x5
  (OX (cf 199 [a0, a1, a2, a4] S) fun p7 =>
  Q .ret (mkf 148 [(0, .top), (1, .top), (2, .top), (3, .top), (4, .top), (10, .top), (11, .top), (12, .top), (13, a13), (80, a80)]) p7.2)
  (OX (unD .not a10) fun x8 =>
  jn (fun (y10 : D) (y11 : D) (y12 : D) (y13 : D) (y14 : D) (y15 : D) (y16 : D) (y17 : D) (y18 : D) (y19 : D) (y20 : D) (S21 : Store) =>
  OX (cf 201 [y10, y11, y12, y14] S21) fun p23 =>
  OX (extD p23.1 0) fun x24 =>
  OX (extD p23.1 1) fun x25 =>
  OX (binD .eql .num x25 (.i .i64 2)) fun x26 =>
  jn (fun (y28 : D) (y29 : D) (y30 : D) (y31 : D) (y32 : D) (y33 : D) (y34 : D) (y35 : D) (y36 : D) (y37 : D) (y38 : D) (y39 : D) (S40 : Store) =>
  OX (gsel y33 true (some y34)) fun x41 =>
  OX (pickD y33 x41 (.b false)) fun x42 =>
  OX (gsel x42 true (some y37)) fun x43 =>
  OX (gsel x42 true (binD .eql .num x43 (.i .i64 1))) fun x44 =>
  OX (pickD x42 x44 (.b false)) fun x45 =>
  jn (fun (y47 : D) (y48 : D) (y49 : D) (y50 : D) (y51 : D) (y52 : D) (y53 : D) (y54 : D) (y55 : D) (y56 : D) (y57 : D) (S58 : Store) =>
  OX (binD .gtr .num y48 (.i .i64 0)) fun x59 =>
  OX (gsel x59 true (some y51)) fun x60 =>
  OX (gsel x59 true (some y47)) fun x61 =>
  OX (gsel x59 true (some y48)) fun x62 =>
  OX (gsel x59 true (binD .sub .num x62 (.i .i64 1))) fun x63 =>
  OX (gsel x59 true (iaD 2 x61 x63)) fun x64 =>
  OX (gsel x59 true (ldD S58 2 true x64)) fun x65 =>
  OX (gsel x59 true (some y47)) fun x66 =>
  OX (gsel x59 true (some y55)) fun x67 =>
  OX (gsel x59 true (iaD 2 x66 x67)) fun x68 =>
  OX (gsel x59 true (ldD S58 2 true x68)) fun x69 =>
  OX (gsel x59 true (match fnD x60 with | some p => isoCall cf p.1 ([x65, x69] ++ p.2) | none => none)) fun x70 =>
  OX (gsel x59 true (binD .lss .num x70 (.i .i64 0))) fun x71 =>
  OX (gsel x59 true (unD .not x71)) fun x72 =>
  OX (pickD x59 x72 (.b false)) fun x73 =>
  WB x73
  (OX (cf 204 [y47, y48, y49, y55, y51] S58) fun p75 =>
  Q .normal (mkf 148 [(0, y47), (1, p75.1), (2, y49), (3, y50), (4, y51), (10, y52), (11, y53), (12, .top), (13, .top), (80, .top)]) p75.2)
  (OX (cf 205 [y47, y48, y49, y55, y51] S58) fun p77 =>
  OX (extD p77.1 0) fun x78 =>
  OX (extD p77.1 1) fun x79 =>
  OX (binD .sub .num x78 y48) fun x80 =>
  OX (binD .sub .num y49 x78) fun x81 =>
  OX (binD .quo .num y54 (.i .i64 8)) fun x82 =>
  OX (binD .lss .num x80 x81) fun x83 =>
  jn (fun (y85 : D) (y86 : D) (y87 : D) (y88 : D) (y89 : D) (y90 : D) (y91 : D) (S92 : Store) =>
  Q .normal (mkf 148 [(0, y85), (1, y86), (2, y87), (3, y88), (4, y89), (10, y90), (11, y91), (12, .top), (13, .top), (80, .top)]) S92) fun k84 =>
  WB x83
  (OX (binD .geq .num x80 x82) fun x93 =>
  OX (cf 174 [y47, y48, x78, y50, y51] p77.2) fun p95 =>
  OX (binD .add .num x78 (.i .i64 1)) fun x96 =>
  k84 y47 x96 y49 y50 y51 x93 x79 p95.2)
  (OX (binD .geq .num x81 x82) fun x97 =>
  OX (binD .add .num x78 (.i .i64 1)) fun x98 =>
  OX (cf 174 [y47, x98, y49, y50, y51] p77.2) fun p100 =>
  k84 y47 y48 x78 y50 y51 x97 x79 p100.2))) fun k46 =>
  WB x45
  (OX (cf 203 [y28, y29, y30, y32] S40) fun p102 =>
  WB p102.1
  (Q .ret (mkf 148 [(0, y28), (1, y29), (2, y30), (3, y31), (4, y32), (10, y33), (11, y34), (12, y35), (13, y36), (80, p102.1)]) p102.2)
  (k46 y28 y29 y30 y31 y32 y33 y34 y35 y36 D.top p102.1 p102.2))
  (k46 y28 y29 y30 y31 y32 y33 y34 y35 y36 x45 y39 S40)) fun k27 =>
  WB x26
  (OX (cf 202 [y10, y11, y12, y14] p23.2) fun p104 =>
  OX (binD .sub .num y12 (.i .i64 1)) fun x105 =>
  OX (binD .sub .num x24 y11) fun x106 =>
  OX (binD .sub .num x105 x106) fun x107 =>
  k27 y10 y11 y12 y13 y14 y15 y16 y17 x107 (.i .i64 1) D.top y20 p104.2)
  (k27 y10 y11 y12 y13 y14 y15 y16 y17 x24 x25 x26 y20 p23.2)) fun k9 =>
  WB x8
  (OX (cf 200 [a0, a1, a2, a4] S) fun p109 =>
  OX (binD .sub .num a3 (.i .i64 1)) fun x110 =>
  k9 a0 a1 a2 x110 a4 a10 a11 x1 a13 D.top a80 p109.2)
  (k9 a0 a1 a2 a3 a4 a10 a11 x1 a13 x8 a80 S)))
theorem e174_0 (cf : CallF) (a0 : D) (a1 : D) (a2 : D) (a3 : D) (a4 : D) (a10 : D) (a11 : D) (a12 : D) (a13 : D) (a80 : D) (S : Store) (Q : Ex → List D → Store → Prop) : wp cf c174_0 (fkill (mkf 148 [(0, a0), (1, a1), (2, a2), (3, a3), (4, a4), (10, a10), (11, a11), (12, a12), (13, a13), (80, a80)]) []) S Q = s174_0 cf a0 a1 a2 a3 a4 a10 a11 a12 a13 a80 S Q := wpS_of (by kernel_rfl)
def s174 (cf : CallF) (a0 : D) (a1 : D) (a2 : D) (a3 : D) (a4 : D) (S : Store) (Post : D → Store → Prop) : Prop :=
  W cf (.loop [] c174_0) (mkf 148 [(0, a0), (1, a1), (2, a2), (3, a3), (4, a4), (10, (.b true)), (11, (.b true)), (12, .top), (13, .top), (80, .top)]) S (Qblk 0 (FinK [] Post))
theorem e174 (cf : CallF) (a0 : D) (a1 : D) (a2 : D) (a3 : D) (a4 : D) (S : Store) (Post : D → Store → Prop) : wp cf c174 (frame0 d174 [a0, a1, a2, a3, a4]) S (FinK d174.res Post) = s174 cf a0 a1 a2 a3 a4 S Post := wpS_of (by kernel_rfl)
theorem f174 (a0 : D) (a1 : D) (a2 : D) (a3 : D) (a4 : D) (S : Store) (Post : D → Store → Prop) (h : s174 (call dp) a0 a1 a2 a3 a4 S Post) : ∃ r S', call dp 174 [a0, a1, a2, a3, a4] S = some (r, S') ∧ Post r S' := call_s (f := d174) rfl ⟨rfl, by decide⟩ (by rw [← e174] at h; exact h)

/-! slices.SortFunc[[]lineage/api.RowID,lineage/api.RowID] -/
def s122 (cf : CallF) (a0 : D) (a1 : D) (S : Store) (Post : D → Store → Prop) : Prop :=
  OX (lenD false a0) fun x1 =>
  OX (convD .u64 x1) fun x2 =>
  OX (isoCall cf 175 [x2]) fun x3 =>
  OX (cf 174 [a0, (.i .i64 0), x1, x3, a1] S) fun p5 =>
  Post (.tup []) p5.2
theorem e122 (cf : CallF) (a0 : D) (a1 : D) (S : Store) (Post : D → Store → Prop) : wp cf c122 (frame0 d122 [a0, a1]) S (FinK d122.res Post) = s122 cf a0 a1 S Post := wpS_of (by kernel_rfl)
theorem f122 (a0 : D) (a1 : D) (S : Store) (Post : D → Store → Prop) (h : s122 (call dp) a0 a1 S Post) : ∃ r S', call dp 122 [a0, a1] S = some (r, S') ∧ Post r S' := call_s (f := d122) rfl ⟨rfl, by decide⟩ (by rw [← e122] at h; exact h)

/-! slices.Compact[[]lineage/api.RowID,lineage/api.RowID] -/
def s124_r0 (cf : CallF) (a0 : D) (a2 : D) (a3 : D) (a4 : D) (a5 : D) (a13 : D) (a25 : D) (a32 : D) (S : Store) (Q : Ex → List D → Store → Prop) : Prop :=
  OX (slcD 2 a0 (some a3) none) fun x1 =>
  OX (clrD 2 [.i .i64 0, .i .i64 0] S x1) fun S3 =>
  OX (slcD 2 a0 none (some a3)) fun x4 =>
  Q .ret (mkf 61 [(0, .top), (2, x4), (3, .top), (4, .top), (5, .top), (13, a13), (25, a25), (32, .top)]) S3
theorem e124_r0 (cf : CallF) (a0 : D) (a2 : D) (a3 : D) (a4 : D) (a5 : D) (a13 : D) (a25 : D) (a32 : D) (S : Store) (Q : Ex → List D → Store → Prop) : wp cf c124_r0 (mkf 61 [(0, a0), (2, a2), (3, a3), (4, a4), (5, a5), (13, a13), (25, a25), (32, a32)]) S Q = s124_r0 cf a0 a2 a3 a4 a5 a13 a25 a32 S Q := wpS_of (by kernel_rfl)
def s124_r1 (cf : CallF) (a0 : D) (a2 : D) (a3 : D) (a4 : D) (a5 : D) (a13 : D) (a25 : D) (a32 : D) (S : Store) (Q : Ex → List D → Store → Prop) : Prop :=
  OX (binD .add .num a3 (.i .i64 1)) fun x5 =>
  Q .normal (mkf 61 [(0, a0), (2, a2), (3, x5), (4, a4), (5, a5), (13, a13), (25, .top), (32, a32)]) S
def s124_0 (cf : CallF) (a0 : D) (a2 : D) (a3 : D) (a4 : D) (a5 : D) (a13 : D) (a25 : D) (a32 : D) (S : Store) (Q : Ex → List D → Store → Prop) : Prop :=
  OX (lenD false a4) fun x6 =>
  OX (binD .lss .num a5 x6) fun x7 =>
  WB x7
  (OX (iaD 2 a4 a5) fun x8 =>
  OX (ldD S 2 true x8) fun x9 =>
  OX (binD .sub .num a5 (.i .i64 1)) fun x10 =>
  OX (iaD 2 a4 x10) fun x11 =>
  OX (ldD S 2 true x11) fun x12 =>
  OX (binD .neq (.agg [.i, .i]) x9 x12) fun x13 =>
  jn (fun (y15 : D) (y16 : D) (y17 : D) (y18 : D) (y19 : D) (y20 : D) (y21 : D) (y22 : D) (S23 : Store) =>
  OX (binD .add .num y19 (.i .i64 1)) fun x24 =>
  Q .normal (mkf 61 [(0, y15), (2, y16), (3, y17), (4, y18), (5, x24), (13, y20), (25, y21), (32, .top)]) S23) fun k14 =>
  WB x13
  (OX (iaD 2 a4 a5) fun x25 =>
  OX (ldD S 2 true x25) fun x26 =>
  OX (iaD 2 a0 a3) fun x27 =>
  OX (stD S 2 true x27 x26) fun S29 =>
  OX (binD .add .num a3 (.i .i64 1)) fun x30 =>
  k14 a0 a2 x30 a4 a5 a13 a25 D.top S29)
  (k14 a0 a2 a3 a4 a5 a13 a25 x13 S))
  (Q (.exit 2) (mkf 61 [(0, a0), (2, a2), (3, a3), (4, a4), (5, a5), (13, a13), (25, a25), (32, x7)]) S)
theorem e124_0 (cf : CallF) (a0 : D) (a2 : D) (a3 : D) (a4 : D) (a5 : D) (a13 : D) (a25 : D) (a32 : D) (S : Store) (Q : Ex → List D → Store → Prop) : wp cf c124_0 (fkill (mkf 61 [(0, a0), (2, a2), (3, a3), (4, a4), (5, a5), (13, a13), (25, a25), (32, a32)]) []) S Q = s124_0 cf a0 a2 a3 a4 a5 a13 a25 a32 S Q := wpS_of (by kernel_rfl)
def s124_r2 (cf : CallF) (a0 : D) (a2 : D) (a3 : D) (a4 : D) (a5 : D) (a13 : D) (a25 : D) (a32 : D) (S : Store) (Q : Ex → List D → Store → Prop) : Prop :=
  Q .ret (mkf 61 [(0, .top), (2, a0), (3, .top), (4, a4), (5, a5), (13, .top), (25, a25), (32, a32)]) S
theorem e124_r2 (cf : CallF) (a0 : D) (a2 : D) (a3 : D) (a4 : D) (a5 : D) (a13 : D) (a25 : D) (a32 : D) (S : Store) (Q : Ex → List D → Store → Prop) : wp cf c124_r2 (mkf 61 [(0, a0), (2, a2), (3, a3), (4, a4), (5, a5), (13, a13), (25, a25), (32, a32)]) S Q = s124_r2 cf a0 a2 a3 a4 a5 a13 a25 a32 S Q := wpS_of (by kernel_rfl)
def s124_1 (cf : CallF) (a0 : D) (a2 : D) (a3 : D) (a4 : D) (a5 : D) (a13 : D) (a25 : D) (a32 : D) (S : Store) (Q : Ex → List D → Store → Prop) : Prop :=
  OX (lenD false a0) fun x31 =>
  OX (binD .lss .num a3 x31) fun x32 =>
  WB x32
  (OX (iaD 2 a0 a3) fun x33 =>
  OX (ldD S 2 true x33) fun x34 =>
  OX (binD .sub .num a3 (.i .i64 1)) fun x35 =>
  OX (iaD 2 a0 x35) fun x36 =>
  OX (ldD S 2 true x36) fun x37 =>
  OX (binD .eql (.agg [.i, .i]) x34 x37) fun x38 =>
  WB x38
  (OX (slcD 2 a0 (some a3) none) fun x39 =>
  W cf (.loop [] c124_0) (mkf 61 [(0, a0), (2, a2), (3, a3), (4, x39), (5, (.i .i64 1)), (13, .top), (25, .top), (32, a32)]) S (Qblk 2 (QS cf c124_r0 (Qblk 1 (QS cf c124_r1 Q)))))
  (s124_r1 cf a0 a2 a3 a4 a5 D.top x38 a32 S Q))
  (Q (.exit 0) (mkf 61 [(0, a0), (2, a2), (3, a3), (4, a4), (5, a5), (13, x32), (25, a25), (32, a32)]) S)
theorem e124_1 (cf : CallF) (a0 : D) (a2 : D) (a3 : D) (a4 : D) (a5 : D) (a13 : D) (a25 : D) (a32 : D) (S : Store) (Q : Ex → List D → Store → Prop) : wp cf c124_1 (fkill (mkf 61 [(0, a0), (2, a2), (3, a3), (4, a4), (5, a5), (13, a13), (25, a25), (32, a32)]) []) S Q = s124_1 cf a0 a2 a3 a4 a5 a13 a25 a32 S Q := wpS_of (by kernel_rfl)
def s124 (cf : CallF) (a0 : D) (S : Store) (Post : D → Store → Prop) : Prop :=
  OX (lenD false a0) fun x40 =>
  OX (binD .lss .num x40 (.i .i64 2)) fun x41 =>
  WB x41
  (Post a0 S)
  (W cf (.loop [] c124_1) (mkf 61 [(0, a0), (2, .top), (3, (.i .i64 1)), (4, .top), (5, .top), (13, .top), (25, .top), (32, .top)]) S (Qblk 0 (QS cf c124_r2 (FinK [.t 2] Post))))
theorem e124 (cf : CallF) (a0 : D) (S : Store) (Post : D → Store → Prop) : wp cf c124 (frame0 d124 [a0]) S (FinK d124.res Post) = s124 cf a0 S Post := wpS_of (by kernel_rfl)
theorem f124 (a0 : D) (S : Store) (Post : D → Store → Prop) (h : s124 (call dp) a0 S Post) : ∃ r S', call dp 124 [a0] S = some (r, S') ∧ Post r S' := call_s (f := d124) rfl ⟨rfl, by decide⟩ (by rw [← e124] at h; exact h)

/-! slices.Clone[[]lineage/api.RowID,lineage/api.RowID] (a) -/
def s1049 (cf : CallF) (a0 : D) (S : Store) (Post : D → Store → Prop) : Prop :=
  OX (binD .eql .sl a0 (.sl 2 true [] .ro)) fun x1 =>
  WB x1
  (Post (.sl 2 true [] .ro) S)
  (OX (cellsV 2 true []) fun x2 =>
  OX (appD 2 true (bslO 2 x2 S).1 a0 (bslO 2 x2 S).2) fun p4 =>
  Post p4.1 p4.2)
theorem e1049 (cf : CallF) (a0 : D) (S : Store) (Post : D → Store → Prop) : wp cf c1049 (frame0 d1049 [a0]) S (FinK d1049.res Post) = s1049 cf a0 S Post := wpS_of (by kernel_rfl)
theorem f1049 (a0 : D) (S : Store) (Post : D → Store → Prop) (h : s1049 (call dp) a0 S Post) : ∃ r S', call dp 1049 [a0] S = some (r, S') ∧ Post r S' := call_s (f := d1049) rfl ⟨rfl, by decide⟩ (by rw [← e1049] at h; exact h)

/-! lineage/rowset.Normalize -/
def s81 (cf : CallF) (a0 : D) (S : Store) (Post : D → Store → Prop) : Prop :=
  OX (cf 1049 [a0] S) fun p2 =>
  OX (cf 122 [p2.1, (.fn 123 [])] p2.2) fun p4 =>
  OX (cf 124 [p2.1] p4.2) fun p6 =>
  OX (fzD p6.1 p6.2) fun p7 =>
  Post p7.1 p7.2
theorem e81 (cf : CallF) (a0 : D) (S : Store) (Post : D → Store → Prop) : wp cf c81 (frame0 d81 [a0]) S (FinK d81.res Post) = s81 cf a0 S Post := wpS_of (by kernel_rfl)
theorem j81 (a0 : D) (Post : D → Prop) (ha : noRefL (stripL [a0]) = true) (hr : ∀ r, Post r → noRef r = true) (h : s81 (call dp) (strip a0) [] fun d _ => Post (stripT d)) : ∃ r, isoCall (call dp) 81 [a0] = some r ∧ Post r := iso_x (f := d81) rfl ⟨rfl, by decide⟩ ha hr (by rw [← e81] at h; exact h)
end Go.Proofs.YtjlmeikcfdanmaaGreatDoor.DE

namespace Go.Proofs.YtjlmeikcfdanmaaGreatDoor.DE.V
open Go

/-! The array's cells. -/
def flatL (l : List Row) : List D := (l.map eRow).flatten
def flat (d : Array Row) : List D := flatL d.toList
def put (S : Store) (id : Nat) (d : Array Row) : Store := sset S id (.box (flat d))
def iN (k : Nat) : D := .i .i64 (k : Int)
def arN (id n : Nat) : D := .ar 2 id 0 n
def cmpF : D := .fn 123 []

theorem flatL_cons (x : Row) (l : List Row) : flatL (x :: l) = .i .i64 x.1 :: .i .i64 x.2 :: flatL l := rfl
theorem flatL_len : ∀ l : List Row, (flatL l).length = 2 * l.length
  | [] => rfl
  | x :: l => by rw [flatL_cons]; simp [flatL_len l]; omega
theorem flatL_rd : ∀ {l : List Row} {k : Nat} {r : Row}, l[k]? = some r → rdK (flatL l) (k * 2) 2 true = some (.agg (eRow r))
  | [], _, _, h => by simp at h
  | x :: l, 0, r, h => by
    simp at h; subst h
    simp [flatL_cons, rdK, eRow]
  | x :: l, k + 1, r, h => by
    have ih := flatL_rd (l := l) (k := k) (by simpa using h)
    have e : (k + 1) * 2 = k * 2 + 1 + 1 := by omega
    simp only [rdK, if_true, flatL_len] at ih ⊢
    rw [flatL_cons, e]
    simp only [List.drop_succ_cons, List.length_cons, flatL_len]
    split at ih
    · rw [if_pos (by omega)]; exact ih
    · cases ih
theorem flatL_st : ∀ {l : List Row} {k : Nat} (r : Row), k < l.length → splice (flatL l) (k * 2) (eRow r) = flatL (l.set k r)
  | [], _, _, h => by simp at h
  | x :: l, 0, r, _ => rfl
  | x :: l, k + 1, r, h => by
    have ih := flatL_st (l := l) (k := k) r (by simpa using h)
    have e : (k + 1) * 2 = k * 2 + 1 + 1 := by omega
    rw [flatL_cons, e, List.set_cons_succ, flatL_cons, ← ih]
    rfl

theorem sset_sset {α : Type} (x y : α) : ∀ (S : List α) (id : Nat), sset (sset S id x) id y = sset S id y
  | [], _ => rfl
  | e :: S, id => by
    simp only [sset]
    split
    · rename_i q; simp [sset, q]
    · rename_i q
      simp only [sset, sset_len, if_neg q, sset_sset x y S id]

theorem put_len (S : Store) (id : Nat) (d : Array Row) : (put S id d).length = S.length := sset_len _ _ _
theorem sget_put {S : Store} {id : Nat} (d : Array Row) (h : id < S.length) : sget (put S id d) id = some (.box (flat d)) := sget_sset _ h
theorem sget_put_ne {S : Store} {id j : Nat} (d : Array Row) (h : j ≠ id) : sget (put S id d) j = sget S j := sget_sset_ne _ h
theorem put_push {S : Store} {id : Nat} (d : Array Row) (e : Ent) (h : id < S.length) : put (e :: S) id d = e :: put S id d := by
  simp only [put, sset]
  rw [if_neg (by omega)]

theorem getE {d : Array Row} {k : Nat} (h : k < d.size) : d.toList[k]? = some d[k]! := by
  rw [Array.getElem?_toList, Array.getElem?_eq_getElem h, getElem!_pos d k h]

theorem ia_N {id n k : Nat} (h : k < n) : iaD 2 (arN id n) (iN k) = some (.bx id (k * 2)) := by
  simp only [arN, iN, iaD]
  rw [if_pos ⟨by omega, by omega, trivial⟩]
  simp
theorem ld_N {S : Store} {id k : Nat} {d : Array Row} (hi : id < S.length) (h : k < d.size) : ldD (put S id d) 2 true (.bx id (k * 2)) = some (.agg (eRow d[k]!)) := by
  simp only [ldD, sget_put d hi]
  exact flatL_rd (getE h)
theorem st_N {S : Store} {id k : Nat} {d : Array Row} (r : Row) (hi : id < S.length) (h : k < d.size) : stD (put S id d) 2 true (.bx id (k * 2)) (.agg (eRow r)) = some (put S id (d.setIfInBounds k r)) := by
  have hl : (flat d).length = 2 * d.size := by rw [flat, flatL_len]; simp
  simp only [stD, sget_put d hi, cellsK_row]
  rw [if_pos (by omega), flat, flatL_st r (by simpa using h), put, sset_sset, put, flat, Array.toList_setIfInBounds]

theorem add_N {a b : Nat} (h : a + b < 4000000000) : binD .add .num (iN a) (iN b) = some (iN (a + b)) := by
  simp only [iN, bin_add]; rw [wrap64 ⟨by omega, by omega⟩]; rfl
theorem sub_N {a b : Nat} (h : b ≤ a) (h' : a < 4000000000) : binD .sub .num (iN a) (iN b) = some (iN (a - b)) := by
  simp only [iN, bin_sub]; rw [wrap64 ⟨by omega, by omega⟩]
  congr 2; omega
theorem mul_N {a b : Nat} (h : a * b < 4000000000) : binD .mul .num (iN a) (iN b) = some (iN (a * b)) := by
  have e : (a : Int) * b = ((a * b : Nat) : Int) := by simp
  simp only [iN, binD, intOp, if_true, e]; generalize a * b = m at *; rw [wrap64 ⟨by omega, by omega⟩]
theorem quo_N {a b : Nat} (h : 0 < b) (ha : a < 4000000000) : binD .quo .num (iN a) (iN b) = some (iN (a / b)) := by
  have : a / b ≤ a := Nat.div_le_self _ _
  simp only [iN, binD, intOp, if_true]
  have e : (a : Int).tdiv b = ((a / b : Nat) : Int) := (Int.ofNat_tdiv a b).symm
  rw [if_neg (by omega), e]
  generalize a / b = c at *
  rw [wrap64 ⟨by omega, by omega⟩]
theorem lss_N (a b : Nat) : binD .lss .num (iN a) (iN b) = some (.b (decide (a < b))) := by
  simp only [iN, bin_lss]; congr 3; simp
theorem gtr_N (a b : Nat) : binD .gtr .num (iN a) (iN b) = some (.b (decide (b < a))) := by
  simp only [iN, bin_gtr]; congr 3; simp
theorem leq_N (a b : Nat) : binD .leq .num (iN a) (iN b) = some (.b (decide (a ≤ b))) := by
  simp only [iN, bin_leq]; congr 3; simp
theorem geq_N (a b : Nat) : binD .geq .num (iN a) (iN b) = some (.b (decide (b ≤ a))) := by
  simp only [iN, bin_geq]; congr 3; simp
theorem eql_N (a b : Nat) : binD .eql .num (iN a) (iN b) = some (.b (decide (a = b))) := by
  simp only [iN, bin_eql]; congr 2; rw [decide_eq_decide]; omega
theorem l0 : D.i .i64 0 = iN 0 := rfl
theorem l1 : D.i .i64 1 = iN 1 := rfl
theorem l2 : D.i .i64 2 = iN 2 := rfl
theorem l3 : D.i .i64 3 = iN 3 := rfl
theorem l4 : D.i .i64 4 = iN 4 := rfl
theorem l8 : D.i .i64 8 = iN 8 := rfl
theorem l12 : D.i .i64 12 = iN 12 := rfl
theorem l50 : D.i .i64 50 = iN 50 := rfl

/-! Comparing rows. -/
def cmpI (a b : Int) : Int := if a < b then -1 else if b < a then 1 else 0
def cmpZ (r s : Row) : Int := if cmpI r.1 s.1 = 0 then cmpI r.2 s.2 else cmpI r.1 s.1
def cD (r s : Row) : D := .i .i64 (cmpZ r s)
def ltR (r s : Row) : Bool := decide (cmpZ r s < 0)

theorem cmpI_cases (a b : Int) : (a < b ∧ cmpI a b = -1) ∨ (a = b ∧ cmpI a b = 0) ∨ (b < a ∧ cmpI a b = 1) := by
  unfold cmpI
  split
  · exact .inl ⟨by assumption, rfl⟩
  · split
    · exact .inr (.inr ⟨by assumption, rfl⟩)
    · exact .inr (.inl ⟨by omega, rfl⟩)
theorem ltR_iff (r s : Row) : ltR r s = true ↔ r.1 < s.1 ∨ (r.1 = s.1 ∧ r.2 < s.2) := by
  rw [ltR, decide_eq_true_iff, cmpZ]
  rcases cmpI_cases r.1 s.1 with ⟨h, e⟩ | ⟨h, e⟩ | ⟨h, e⟩
  · rw [e, if_neg (by omega)]; omega
  · rw [e, if_pos rfl]
    rcases cmpI_cases r.2 s.2 with ⟨k, e⟩ | ⟨k, e⟩ | ⟨k, e⟩ <;> rw [e] <;> omega
  · rw [e, if_neg (by omega)]; omega
theorem ltR_false (r s : Row) : ltR r s = false ↔ ¬ (r.1 < s.1 ∨ (r.1 = s.1 ∧ r.2 < s.2)) := by
  rw [← ltR_iff]; simp

theorem swo : Go.Sort.SWO ltR where
  irrefl x := by rw [ltR_false]; omega
  trans x y z := by rw [ltR_iff, ltR_iff, ltR_iff]; omega
  ntrans x y z := by rw [ltR_false, ltR_false, ltR_false]; omega

theorem lss_c (r s : Row) : binD .lss .num (cD r s) (iN 0) = some (.b (ltR r s)) := by
  simp only [cD, iN, bin_lss]; rfl

end Go.Proofs.YtjlmeikcfdanmaaGreatDoor.DE.V

namespace Go.Proofs.YtjlmeikcfdanmaaGreatDoor.DE.V
open Go

theorem v187 (a : Int) : isoCall (call dp) 187 [.i .i64 a] = some (.b false) := by
  apply i187 _ _ rfl rfl
  simp [s187]

theorem v144 (a b : Int) : isoCall (call dp) 144 [.i .i64 a, .i .i64 b] = some (.i .i64 (cmpI a b)) := by
  apply i144 _ _ _ rfl rfl
  simp [s144, v187]
  rcases cmpI_cases a b with ⟨h, e⟩ | ⟨h, e⟩ | ⟨h, e⟩ <;> rw [e]
  · simp [h]
  · simp [h]
  · have : ¬ a < b := by omega
    simp [h, this]

/-- One round of a loop. -/
theorem W_step {cf : CallF} {kl : List Nat} {c : C} {fr : List D} {S : Store} {Q : Ex → List D → Store → Prop} (h : W cf c (fkill fr kl) S (Qseq (fun fr' S' => W cf (.loop kl c) fr' S' Q) Q)) : W cf (.loop kl c) fr S Q := by
  obtain ⟨ex, f1, S1, he, hq⟩ := W_ex.1 h
  have mono : ∀ n m, n ≤ m → LeO (iter (fun fr S => execL cf c (fkill fr kl) S) n fr S) (iter (fun fr S => execL cf c (fkill fr kl) S) m fr S) := fun n m hm => iter_mono (fun _ _ => LeO.refl _) n m hm fr S
  cases ex with
  | normal =>
    obtain ⟨ex', f2, S2, he2, hq2⟩ := W_ex.1 hq
    simp only [execL] at he2
    obtain ⟨n, hn⟩ := (lim_iff (fun n m hm => iter_mono (fun _ _ => LeO.refl _) n m hm f1 S1) _).1 he2
    refine W_ex.2 ⟨ex', f2, S2, ?_, hq2⟩
    simp only [execL]
    refine (lim_iff mono _).2 ⟨n + 1, ?_⟩
    simp only [iter, he]
    exact hn
  | exit id =>
    refine W_ex.2 ⟨.exit id, f1, S1, ?_, hq⟩
    simp only [execL]
    exact (lim_iff mono _).2 ⟨1, by simp only [iter, he]⟩
  | ret =>
    refine W_ex.2 ⟨.ret, f1, S1, ?_, hq⟩
    simp only [execL]
    exact (lim_iff mono _).2 ⟨1, by simp only [iter, he]⟩

theorem v143 (a b : Int) : isoCall (call dp) 143 [.sl 1 false [[.i .i64 a], [.i .i64 b]] .ro] = some (.i .i64 (if a = 0 then b else a)) := by
  apply i143 _ _ rfl rfl
  have w1 : IntKind.i64.wrap 1 = 1 := wrap64 ⟨by omega, by omega⟩
  have w2 : IntKind.i64.wrap 2 = 2 := wrap64 ⟨by omega, by omega⟩
  have hs : strip (.sl 1 false [[.i .i64 a], [.i .i64 b]] .ro) = .sl 1 false [[.i .i64 a], [.i .i64 b]] .ro := rfl
  rw [hs]
  simp [s143]
  apply W_step
  rw [← wp_W, e143_0]
  by_cases ha : a = 0
  · simp [s143_0, iaD, ha, w1]
    apply W_step
    rw [← wp_W, e143_0]
    by_cases hb : b = 0
    · simp [s143_0, iaD, hb, w2]
      apply W_step
      rw [← wp_W, e143_0]
      simp [s143_0, e143_r0, s143_r0]
    · simp [s143_0, iaD, hb]
  · simp [s143_0, iaD, ha]

theorem v123 (r s : Row) : isoCall (call dp) 123 [.agg (eRow r), .agg (eRow s)] = some (cD r s) := by
  apply i123 _ _ _ rfl rfl
  have e1 := v144 r.1 s.1
  have e2 := v144 r.2 s.2
  have e3 := v143 (cmpI r.1 s.1) (cmpI r.2 s.2)
  have hc : cellsV 1 false [.i .i64 (cmpI r.1 s.1), .i .i64 (cmpI r.2 s.2)] = some [[.i .i64 (cmpI r.1 s.1)], [.i .i64 (cmpI r.2 s.2)]] := rfl
  simp [s123, e1, e2, hc, e3]
  rfl

theorem FinK_nil (Post : D → Store → Prop) (fr : List D) (S : Store) : FinK [] Post .ret fr S = Post (.tup []) S := rfl

theorem swp_size (d : Array Row) (i j : Nat) : (Go.Sort.swp d i j).size = d.size := by simp [Go.Sort.swp]

theorem v198 {S : Store} {id n : Nat} {d : Array Row} (a b : Nat) (hi : id < S.length) (hn : d.size = n) (hab : a ≤ b) (hb : b ≤ n) (h9 : n ≤ 1000000) :
    call dp 198 [arN id n, iN a, iN b, cmpF] (put S id d) = some (.tup [], put S id (Go.Sort.insertionSort ltR d a b)) := by
  obtain ⟨r, S', e, rfl, rfl⟩ := f198 (arN id n) (iN a) (iN b) cmpF (put S id d) (fun r S' => r = .tup [] ∧ S' = put S id (Go.Sort.insertionSort ltR d a b)) (by
    simp (disch := omega) [s198, l1, add_N]
    let J : Nat → List D → Store → Prop := fun q fr S' => ∃ i d' x9 x14 x34, q = b - i ∧ a < i ∧ d'.size = n ∧ Go.Sort.insOuter ltR a b i d' = Go.Sort.insertionSort ltR d a b ∧ S' = put S id d' ∧
      fr = mkf 53 [(0, arN id n), (1, iN a), (2, iN b), (3, cmpF), (8, iN i), (9, x9), (14, x14), (34, x34)]
    refine W_loop J ?_ (b - (a + 1)) _ _ ⟨a + 1, d, _, _, _, rfl, by omega, hn, rfl, rfl, rfl⟩
    rintro q fr S' ⟨i, d', x9, x14, x34, rfl, hai, hn', hio, rfl, rfl⟩
    rw [← wp_W, e198_1]
    rw [Go.Sort.insOuter] at hio
    by_cases hlt : i < b
    · rw [if_pos hlt] at hio
      simp (disch := omega) [s198_1, lss_N, hlt]
      let J2 : Nat → List D → Store → Prop := fun q fr S' => ∃ d'' x14 x34, a ≤ q ∧ q ≤ i ∧ d''.size = n ∧ Go.Sort.insInner ltR a q d'' = Go.Sort.insInner ltR a i d' ∧ S' = put S id d'' ∧
        fr = mkf 53 [(0, arN id n), (1, iN a), (2, iN b), (3, cmpF), (8, iN i), (9, iN q), (14, x14), (34, x34)]
      refine W_loop J2 ?_ i _ _ ⟨d', _, _, by omega, by omega, hn', rfl, rfl, rfl⟩
      rintro q fr S' ⟨d'', x14, x34, haq, hqi, hn'', hii, rfl, rfl⟩
      rw [← wp_W, e198_0]
      have out : ∀ x34, Go.Sort.insInner ltR a q d'' = d'' → Qseq (fun fr' S' => ∃ m', m' < q ∧ J2 m' fr' S') (Qblk 2 (Qblk 1 (QS (call dp) c198_r0 (Qseq (fun fr' S' => ∃ m', m' < b - i ∧ J m' fr' S') (Qblk 0 (FinK [] fun r S' => r = D.tup [] ∧ S' = put S id (Go.Sort.insertionSort ltR d a b))))))) (.exit 2)
          (mkf 53 [(0, arN id n), (1, iN a), (2, iN b), (3, cmpF), (8, iN i), (9, iN q), (14, x14), (34, x34)]) (put S id d'') := by
        intro x34 hq
        simp (disch := omega) [e198_r0, s198_r0, l1, add_N]
        exact ⟨b - (i + 1), by omega, i + 1, d'', _, _, _, rfl, by omega, hn'', by rw [← hio, ← hii, hq], rfl, rfl⟩
      cases q with
      | zero =>
        have hq : ¬ a < 0 := by omega
        simp (disch := omega) only [s198_0, gtr_N, hq, decide_false, OX_some, gsel_ft, gsel_skip, pick_f, WB_b, Bool.false_eq_true, if_false]
        exact out _ rfl
      | succ j =>
        rw [Go.Sort.insInner] at hii
        by_cases hq : a < j + 1
        · have lj : j < d''.size := by omega
          have lj1 : j + 1 < d''.size := by omega
          have i1 := ia_N (id := id) (n := n) (k := j) (by omega)
          have i2 := ia_N (id := id) (n := n) (k := j + 1) (by omega)
          have d1 := ld_N hi lj
          have d2 := ld_N hi lj1
          have c1 := v123 d''[j + 1]! d''[j]!
          have s1 := st_N d''[j]! hi lj1
          have s2 := st_N (d := d''.setIfInBounds (j + 1) d''[j]!) (k := j) d''[j + 1]! hi (by simpa using lj)
          have m1 : binD .sub .num (iN (j + 1)) (iN 1) = some (iN j) := sub_N (by omega) (by omega)
          by_cases hc : ltR d''[j + 1]! d''[j]! = true
          · simp only [s198_0, l1, l0, gtr_N, hq, decide_true, OX_some, gsel_tt, i1, i2, d1, d2, cmpF, fnD_fn, List.append_nil, c1, m1, lss_c, hc, pick_t, WB_b, if_true, s1, s2, Qseq_normal]
            refine ⟨j, by omega, _, _, _, by omega, by omega, ?_, ?_, rfl, rfl⟩
            · simp [hn'']
            · rw [← hii]; simp [hq, hc, Go.Sort.swp]
          · simp only [s198_0, l1, l0, gtr_N, hq, decide_true, OX_some, gsel_tt, i1, i2, d1, d2, cmpF, fnD_fn, List.append_nil, c1, m1, lss_c, hc, pick_t, WB_b, if_false, Bool.not_eq_true]
            refine out _ ?_
            rw [Go.Sort.insInner]; simp [hc]
        · simp (disch := omega) only [s198_0, gtr_N, hq, decide_false, OX_some, gsel_ft, gsel_skip, pick_f, WB_b, Bool.false_eq_true, if_false]
          refine out _ ?_
          rw [Go.Sort.insInner]; simp [hq]
    · rw [if_neg hlt] at hio
      simp (disch := omega) [s198_1, lss_N, hlt, hio, FinK_nil])
  exact e

end Go.Proofs.YtjlmeikcfdanmaaGreatDoor.DE.V

namespace Go.Proofs.YtjlmeikcfdanmaaGreatDoor.DE.V
open Go

theorem jnE {α : Type} (K : α) (X : α → Prop) : jn K X = X K := rfl

theorem v216 {S : Store} {id n : Nat} {d : Array Row} (lo hi first : Nat) (hid : id < S.length) (hn : d.size = n) (hb : first + hi ≤ n) (hlo : lo ≤ n) (h9 : n ≤ 1000000) :
    call dp 216 [arN id n, iN lo, iN hi, iN first, cmpF] (put S id d) = some (.tup [], put S id (Go.Sort.siftDown ltR hi first lo d)) := by
  obtain ⟨r, S', e, rfl, rfl⟩ := f216 (arN id n) (iN lo) (iN hi) (iN first) cmpF (put S id d) (fun r S' => r = .tup [] ∧ S' = put S id (Go.Sort.siftDown ltR hi first lo d)) (by
    simp (disch := omega) only [s216]
    let J : Nat → List D → Store → Prop := fun q fr S' => ∃ root d' x11 x18 x58, q = hi - root ∧ root ≤ n ∧ d'.size = n ∧ Go.Sort.siftDown ltR hi first root d' = Go.Sort.siftDown ltR hi first lo d ∧ S' = put S id d' ∧
      fr = mkf 82 [(0, arN id n), (2, iN hi), (3, iN first), (4, cmpF), (10, iN root), (11, x11), (18, x18), (58, x58)]
    refine W_loop J ?_ (hi - lo) _ _ ⟨lo, d, _, _, _, rfl, hlo, hn, rfl, rfl, rfl⟩
    rintro q fr S' ⟨root, d', x11, x18, x58, rfl, hrn, hn', hio, rfl, rfl⟩
    rw [← wp_W, e216_0]
    have m1 : binD .mul .num (iN 2) (iN root) = some (iN (2 * root)) := mul_N (by omega)
    have m2 : binD .add .num (iN (2 * root)) (iN 1) = some (iN (2 * root + 1)) := add_N (by omega)
    have m3 : binD .add .num (iN (2 * root + 1)) (iN 1) = some (iN (2 * root + 2)) := add_N (by omega)
    rw [Go.Sort.siftDown] at hio
    by_cases h0 : 2 * root + 1 ≥ hi
    · rw [dif_pos h0] at hio
      have h0' : hi ≤ 2 * root + 1 := h0
      simp [-Int.natCast_add, s216_0, l0, l1, l2, m1, m2, geq_N, h0', FinK_nil, hio]
    rw [dif_neg h0] at hio
    have h0' : ¬ hi ≤ 2 * root + 1 := h0
    have r1 : binD .add .num (iN first) (iN root) = some (iN (first + root)) := add_N (by omega)
    have r2 : binD .add .num (iN first) (iN (2 * root + 1)) = some (iN (first + (2 * root + 1))) := add_N (by omega)
    have r3 : binD .add .num (iN first) (iN (2 * root + 2)) = some (iN (first + (2 * root + 2))) := add_N (by omega)
    have r4 : binD .add .num (iN (first + (2 * root + 1))) (iN 1) = some (iN (first + (2 * root + 2))) := add_N (by omega)
    have i0 := ia_N (id := id) (n := n) (k := first + root) (by omega)
    have d0 := ld_N (d := d') (k := first + root) hid (by omega)
    have i1 := ia_N (id := id) (n := n) (k := first + (2 * root + 1)) (by omega)
    have d1 := ld_N (d := d') (k := first + (2 * root + 1)) hid (by omega)
    have c1 := v123 d'[first + root]! d'[first + (2 * root + 1)]!
    have s1 := st_N (d := d') (k := first + root) d'[first + (2 * root + 1)]! hid (by omega)
    have s2 := st_N (d := d'.setIfInBounds (first + root) d'[first + (2 * root + 1)]!) (k := first + (2 * root + 1)) d'[first + root]! hid (by simp; omega)
    by_cases h1 : 2 * root + 2 < hi
    · have i2 := ia_N (id := id) (n := n) (k := first + (2 * root + 2)) (by omega)
      have d2 := ld_N (d := d') (k := first + (2 * root + 2)) hid (by omega)
      have c2 := v123 d'[first + root]! d'[first + (2 * root + 2)]!
      have c3 := v123 d'[first + (2 * root + 1)]! d'[first + (2 * root + 2)]!
      have s3 := st_N (d := d') (k := first + root) d'[first + (2 * root + 2)]! hid (by omega)
      have s4 := st_N (d := d'.setIfInBounds (first + root) d'[first + (2 * root + 2)]!) (k := first + (2 * root + 2)) d'[first + root]! hid (by simp; omega)
      cases h2 : ltR d'[first + (2 * root + 1)]! d'[first + (2 * root + 2)]! with
      | true =>
        rw [if_pos (by simp [h1, Nat.add_assoc, h2])] at hio
        cases h3 : ltR d'[first + root]! d'[first + (2 * root + 2)]! with
        | true =>
          rw [if_neg (by simp [h3]), dif_pos h1] at hio
          simp only [s216_0, l0, l1, l2, m1, m2, m3, r1, r2, r3, r4, geq_N, lss_N, h0', h1, decide_true, decide_false, OX_some, WB_b, Bool.false_eq_true, if_false, if_true, gsel_tt, i0, i1, i2, d0, d1, d2, cmpF, fnD_fn, List.append_nil, c1, c2, c3, lss_c, h2, h3, pick_t, jnE, un_not, Bool.not_true, s3, s4, Qseq_normal]
          exact ⟨hi - (2 * root + 2), by omega, 2 * root + 2, Go.Sort.swp d' (first + root) (first + (2 * root + 2)), _, _, _, rfl, by omega, (swp_size _ _ _).trans hn', hio, rfl, rfl⟩
        | false =>
          rw [if_pos (by simp [h3])] at hio
          simp only [s216_0, l0, l1, l2, m1, m2, m3, r1, r2, r3, r4, geq_N, lss_N, h0', h1, decide_true, decide_false, OX_some, WB_b, Bool.false_eq_true, if_false, if_true, gsel_tt, i0, i1, i2, d0, d1, d2, cmpF, fnD_fn, List.append_nil, c1, c2, c3, lss_c, h2, h3, pick_t, jnE, un_not, Bool.not_false, Qseq_ret, Qblk_ret, FinK_nil]
          exact ⟨trivial, by rw [hio]⟩
      | false =>
        rw [if_neg (by simp [Nat.add_assoc, h2])] at hio
        cases h3 : ltR d'[first + root]! d'[first + (2 * root + 1)]! with
        | true =>
          rw [if_neg (by simp [h3])] at hio
          simp only [s216_0, l0, l1, l2, m1, m2, m3, r1, r2, r3, r4, geq_N, lss_N, h0', h1, decide_true, decide_false, OX_some, WB_b, Bool.false_eq_true, if_false, if_true, gsel_tt, i0, i1, i2, d0, d1, d2, cmpF, fnD_fn, List.append_nil, c1, c2, c3, lss_c, h2, h3, pick_t, jnE, un_not, Bool.not_true, s1, s2, Qseq_normal]
          exact ⟨hi - (2 * root + 1), by omega, 2 * root + 1, Go.Sort.swp d' (first + root) (first + (2 * root + 1)), _, _, _, rfl, by omega, (swp_size _ _ _).trans hn', hio, rfl, rfl⟩
        | false =>
          rw [if_pos (by simp [h3])] at hio
          simp only [s216_0, l0, l1, l2, m1, m2, m3, r1, r2, r3, r4, geq_N, lss_N, h0', h1, decide_true, decide_false, OX_some, WB_b, Bool.false_eq_true, if_false, if_true, gsel_tt, i0, i1, i2, d0, d1, d2, cmpF, fnD_fn, List.append_nil, c1, c2, c3, lss_c, h2, h3, pick_t, jnE, un_not, Bool.not_false, Qseq_ret, Qblk_ret, FinK_nil]
          exact ⟨trivial, by rw [hio]⟩
    · rw [if_neg (by simp; omega)] at hio
      cases h3 : ltR d'[first + root]! d'[first + (2 * root + 1)]! with
      | true =>
        rw [if_neg (by simp [h3])] at hio
        simp only [s216_0, l0, l1, l2, m1, m2, m3, r1, r2, r3, r4, geq_N, lss_N, h0', h1, decide_true, decide_false, OX_some, WB_b, Bool.false_eq_true, if_false, if_true, gsel_ft, i0, i1, d0, d1, cmpF, fnD_fn, List.append_nil, c1, lss_c, h3, pick_f, jnE, un_not, Bool.not_true, s1, s2, Qseq_normal]
        exact ⟨hi - (2 * root + 1), by omega, 2 * root + 1, Go.Sort.swp d' (first + root) (first + (2 * root + 1)), _, _, _, rfl, by omega, (swp_size _ _ _).trans hn', hio, rfl, rfl⟩
      | false =>
        rw [if_pos (by simp [h3])] at hio
        simp only [s216_0, l0, l1, l2, m1, m2, m3, r1, r2, r3, r4, geq_N, lss_N, h0', h1, decide_true, decide_false, OX_some, WB_b, Bool.false_eq_true, if_false, if_true, gsel_ft, i0, i1, d0, d1, cmpF, fnD_fn, List.append_nil, c1, lss_c, h3, pick_f, jnE, un_not, Bool.not_false, Qseq_ret, Qblk_ret, FinK_nil]
        exact ⟨trivial, by rw [hio]⟩)
  exact e

def iP (k : Nat) : D := .i .i64 ((k : Int) - 1)
theorem iP_succ (k : Nat) : iP (k + 1) = iN k := by simp only [iP, iN]; congr 1; omega
theorem sub_P (k : Nat) (h : k < 4000000000) : binD .sub .num (iN k) (iN 1) = some (iP k) := by
  simp only [iN, iP, bin_sub]; rw [wrap64 ⟨by omega, by omega⟩]; rfl
theorem geq_P0 : binD .geq .num (iP 0) (iN 0) = some (.b false) := rfl

theorem siftDown_size (hi first : Nat) : ∀ (root : Nat) (d : Array Row), (Go.Sort.siftDown ltR hi first root d).size = d.size := by
  intro root d
  fun_induction Go.Sort.siftDown ltR hi first root d <;> simp_all [swp_size]

theorem v199 {S : Store} {id n : Nat} {d : Array Row} (a b : Nat) (hid : id < S.length) (hn : d.size = n) (hab : a < b) (hb : b ≤ n) (h9 : n ≤ 1000000) :
    call dp 199 [arN id n, iN a, iN b, cmpF] (put S id d) = some (.tup [], put S id (Go.Sort.heapSort ltR d a b)) := by
  obtain ⟨r, S', e, rfl, rfl⟩ := f199 (arN id n) (iN a) (iN b) cmpF (put S id d) (fun r S' => r = .tup [] ∧ S' = put S id (Go.Sort.heapSort ltR d a b)) (by
    have m1 : binD .sub .num (iN b) (iN a) = some (iN (b - a)) := sub_N (by omega) (by omega)
    have m2 : binD .sub .num (iN (b - a)) (iN 1) = some (iN (b - a - 1)) := sub_N (by omega) (by omega)
    have m3 : binD .quo .num (iN (b - a - 1)) (iN 2) = some (iN ((b - a - 1) / 2)) := quo_N (by omega) (by omega)
    simp only [s199, l0, l1, l2, m1, m2, m3, OX_some]
    let J : Nat → List D → Store → Prop := fun q fr S' => ∃ d' x12 x21 x33, q ≤ b - a ∧ d'.size = n ∧ Go.Sort.heapPop ltR a (b - a) (Go.Sort.heapBuild ltR (b - a) a q d') = Go.Sort.heapSort ltR d a b ∧ S' = put S id d' ∧
      fr = mkf 60 [(0, arN id n), (3, cmpF), (8, iN a), (9, iN 0), (10, iN (b - a)), (11, iP q), (12, x12), (21, x21), (33, x33)]
    refine W_loop J ?_ ((b - a - 1) / 2 + 1) _ _ ⟨d, _, _, _, by omega, hn, rfl, rfl, by rw [iP_succ]⟩
    rintro q fr S' ⟨d', x12, x21, x33, hq, hn', hio, rfl, rfl⟩
    rw [← wp_W, e199_1]
    cases q with
    | succ k =>
      have m4 := v216 (d := d') k (b - a) a hid hn' (by omega) (by omega) h9
      simp only [s199_1, l0, l1, iP_succ, geq_N, Nat.zero_le, decide_true, OX_some, WB_b, if_true, m4, sub_P k (by omega), Qseq_normal]
      exact ⟨k, by omega, _, _, _, _, by omega, (siftDown_size _ _ _ _).trans hn', hio, rfl, rfl⟩
    | zero =>
      simp only [s199_1, l0, l1, geq_P0, OX_some, WB_b, Bool.false_eq_true, if_false, Qseq_exit, Qblk_same, QS_normal, e199_r0, s199_r0, m2]
      rw [Go.Sort.heapBuild] at hio
      let J2 : Nat → List D → Store → Prop := fun q fr S' => ∃ d' x10 x11 x21 x33, q ≤ b - a ∧ d'.size = n ∧ Go.Sort.heapPop ltR a q d' = Go.Sort.heapSort ltR d a b ∧ S' = put S id d' ∧
        fr = mkf 60 [(0, arN id n), (3, cmpF), (8, iN a), (9, iN 0), (10, x10), (11, x11), (12, iP q), (21, x21), (33, x33)]
      have eP : iN (b - a - 1) = iP (b - a) := by
        have : b - a = (b - a - 1) + 1 := by omega
        rw [this, iP_succ]; rfl
      rw [eP]
      refine W_loop J2 ?_ (b - a) _ _ ⟨d', _, _, _, _, by omega, hn', hio, rfl, rfl⟩
      · rintro q fr S' ⟨d', x10, x11, x21, x33, hq, hn', hio, rfl, rfl⟩
        rw [← wp_W, e199_0]
        cases q with
        | succ k =>
          have r1 : binD .add .num (iN a) (iN k) = some (iN (a + k)) := add_N (by omega)
          have i0 := ia_N (id := id) (n := n) (k := a) (by omega)
          have i1 := ia_N (id := id) (n := n) (k := a + k) (by omega)
          have d0 := ld_N (d := d') (k := a) hid (by omega)
          have d1 := ld_N (d := d') (k := a + k) hid (by omega)
          have s1 := st_N (d := d') (k := a) d'[a + k]! hid (by omega)
          have s2 := st_N (d := d'.setIfInBounds a d'[a + k]!) (k := a + k) d'[a]! hid (by simp; omega)
          have m4 : call dp 216 [arN id n, iN 0, iN k, iN a, cmpF] (put S id ((d'.setIfInBounds a d'[a + k]!).setIfInBounds (a + k) d'[a]!)) = _ := v216 (d := Go.Sort.swp d' a (a + k)) 0 k a hid ((swp_size _ _ _).trans hn') (by omega) (by omega) h9
          simp only [s199_0, l0, l1, iP_succ, geq_N, Nat.zero_le, decide_true, OX_some, WB_b, if_true, r1, i0, i1, d0, d1, s1, s2, m4, sub_P k (by omega), Qseq_normal]
          exact ⟨k, by omega, _, _, _, _, _, by omega, (siftDown_size _ _ _ _).trans ((swp_size _ _ _).trans hn'), hio, rfl, rfl⟩
        | zero =>
          rw [Go.Sort.heapPop] at hio
          simp only [s199_0, l0, l1, geq_P0, OX_some, WB_b, Bool.false_eq_true, if_false, Qseq_exit, Qblk_same, FinK_normal, FinK_nil]
          exact ⟨trivial, by rw [hio]⟩)
  exact e

theorem v202 {S : Store} {id n : Nat} {d : Array Row} (a b : Nat) (hid : id < S.length) (hn : d.size = n) (hab : a < b) (hb : b ≤ n) (h9 : n ≤ 1000000) :
    call dp 202 [arN id n, iN a, iN b, cmpF] (put S id d) = some (.tup [], put S id (Go.Sort.reverseRange d a b)) := by
  obtain ⟨r, S', e, rfl, rfl⟩ := f202 (arN id n) (iN a) (iN b) cmpF (put S id d) (fun r S' => r = .tup [] ∧ S' = put S id (Go.Sort.reverseRange d a b)) (by
    have m1 : binD .sub .num (iN b) (iN 1) = some (iN (b - 1)) := sub_N (by omega) (by omega)
    simp only [s202, l1, m1, OX_some]
    let J : Nat → List D → Store → Prop := fun q fr S' => ∃ i j d' x15, q = j - i ∧ i < n ∧ j < n ∧ d'.size = n ∧ Go.Sort.reverseLoop i j d' = Go.Sort.reverseRange d a b ∧ S' = put S id d' ∧
      fr = mkf 34 [(0, arN id n), (8, iN i), (9, iN j), (15, x15)]
    refine W_loop J ?_ (b - 1 - a) _ _ ⟨a, b - 1, d, _, rfl, by omega, by omega, hn, rfl, rfl, rfl⟩
    rintro q fr S' ⟨i, j, d', x15, rfl, hi, hj, hn', hio, rfl, rfl⟩
    rw [← wp_W, e202_0]
    rw [Go.Sort.reverseLoop] at hio
    by_cases h : i < j
    · rw [if_pos h] at hio
      have m2 : binD .add .num (iN i) (iN 1) = some (iN (i + 1)) := add_N (by omega)
      have m3 : binD .sub .num (iN j) (iN 1) = some (iN (j - 1)) := sub_N (by omega) (by omega)
      have i0 := ia_N (id := id) hi
      have i1 := ia_N (id := id) hj
      have d0 := ld_N (d := d') (k := i) hid (by omega)
      have d1 := ld_N (d := d') (k := j) hid (by omega)
      have s1 := st_N (d := d') (k := i) d'[j]! hid (by omega)
      have s2 := st_N (d := d'.setIfInBounds i d'[j]!) (k := j) d'[i]! hid (by simp; omega)
      simp only [s202_0, l1, lss_N, h, decide_true, OX_some, WB_b, if_true, m2, m3, i0, i1, d0, d1, s1, s2, Qseq_normal]
      exact ⟨j - 1 - (i + 1), by omega, i + 1, j - 1, _, _, rfl, by omega, by omega, (swp_size _ _ _).trans hn', hio, rfl, rfl⟩
    · rw [if_neg h] at hio
      simp only [s202_0, l1, lss_N, h, decide_false, OX_some, WB_b, Bool.false_eq_true, if_false, Qseq_exit, Qblk_same, FinK_normal, FinK_nil]
      exact ⟨trivial, by rw [hio]⟩)
  exact e

end Go.Proofs.YtjlmeikcfdanmaaGreatDoor.DE.V

namespace Go.Proofs.YtjlmeikcfdanmaaGreatDoor.DE.V
open Go

def swB (k : Nat) : Ent := .box [iN k]

theorem sget_swB {S : Store} {id : Nat} (d : Array Row) (k : Nat) (h : id < S.length) : sget (put (swB k :: S) id d) S.length = some (swB k) := by
  rw [sget_put_ne _ (by omega)]; simp
theorem ld_swB {S : Store} {id : Nat} (d : Array Row) (k : Nat) (h : id < S.length) : ldD (put (swB k :: S) id d) 1 false (.bx S.length 0) = some (iN k) := by
  simp only [ldD_bx, sget_swB d k h]; rfl
theorem st_swB {S : Store} {id : Nat} (d : Array Row) (k m : Nat) (h : id < S.length) : stD (put (swB k :: S) id d) 1 false (.bx S.length 0) (iN m) = some (put (swB m :: S) id d) := by
  simp only [stD_bx, sget_swB d k h]
  have : stE (some (swB k)) (put (swB k :: S) id d) S.length 1 false 0 (iN m) = some (sset (put (swB k :: S) id d) S.length (swB m)) := rfl
  rw [this, put_push _ _ h, put_push _ _ h]
  simp only [sset, put_len, if_true]

theorem v224 {S : Store} {id n k : Nat} {d : Array Row} (a b : Nat) (hid : id < S.length) (hn : d.size = n) (ha : a < n) (hb : b < n) (hk : k ≤ 1000) :
    ∃ i j k', call dp 224 [arN id n, iN a, iN b, .bx S.length 0, cmpF] (put (swB k :: S) id d) = some (.tup [iN i, iN j], put (swB k' :: S) id d) ∧ k' ≤ k + 1 ∧ ((i = a ∧ j = b) ∨ (i = b ∧ j = a)) := by
  have hid' : id < (swB k :: S).length := by simp; omega
  obtain ⟨r, S', e, i, j, k', rfl, rfl, h1, h2⟩ := f224 (arN id n) (iN a) (iN b) (.bx S.length 0) cmpF (put (swB k :: S) id d) (fun r S' => ∃ i j k', r = .tup [iN i, iN j] ∧ S' = put (swB k' :: S) id d ∧ k' ≤ k + 1 ∧ ((i = a ∧ j = b) ∨ (i = b ∧ j = a))) (by
    have i0 := ia_N (id := id) ha
    have i1 := ia_N (id := id) hb
    have d0 := ld_N (d := d) (k := a) hid' (by omega)
    have d1 := ld_N (d := d) (k := b) hid' (by omega)
    have c1 := v123 d[b]! d[a]!
    have m1 : binD .add .num (iN k) (iN 1) = some (iN (k + 1)) := add_N (by omega)
    have hnil : nilckD (.bx S.length 0) = some (.bx S.length 0) := rfl
    cases h : ltR d[b]! d[a]! with
    | true =>
      simp only [s224, l0, l1, i0, i1, d0, d1, OX_some, cmpF, fnD_fn, List.append_nil, c1, lss_c, h, WB_b, if_true, hnil, ld_swB d k hid, m1, st_swB d k _ hid]
      exact ⟨b, a, k + 1, rfl, rfl, by omega, .inr ⟨rfl, rfl⟩⟩
    | false =>
      simp only [s224, l0, i0, i1, d0, d1, OX_some, cmpF, fnD_fn, List.append_nil, c1, lss_c, h, WB_b, Bool.false_eq_true, if_false]
      exact ⟨a, b, k, rfl, rfl, by omega, .inl ⟨rfl, rfl⟩⟩)
  exact ⟨i, j, k', e, h1, h2⟩

theorem v220 {S : Store} {id n k : Nat} {d : Array Row} (a b c : Nat) (hid : id < S.length) (hn : d.size = n) (ha : a < n) (hb : b < n) (hc : c < n) (hk : k ≤ 900) :
    ∃ i k', call dp 220 [arN id n, iN a, iN b, iN c, .bx S.length 0, cmpF] (put (swB k :: S) id d) = some (iN i, put (swB k' :: S) id d) ∧ k' ≤ k + 3 ∧ (i = a ∨ i = b ∨ i = c) := by
  obtain ⟨r, S', e, i, k', rfl, rfl, h1, h2⟩ := f220 (arN id n) (iN a) (iN b) (iN c) (.bx S.length 0) cmpF (put (swB k :: S) id d) (fun r S' => ∃ i k', r = iN i ∧ S' = put (swB k' :: S) id d ∧ k' ≤ k + 3 ∧ (i = a ∨ i = b ∨ i = c)) (by
    obtain ⟨i1, j1, k1, e1, q1, o1⟩ := v224 (k := k) a b hid hn ha hb (by omega)
    obtain ⟨i2, j2, k2, e2, q2, o2⟩ := v224 (k := k1) j1 c hid hn (by omega) hc (by omega)
    obtain ⟨i3, j3, k3, e3, q3, o3⟩ := v224 (k := k2) i1 i2 hid hn (by omega) (by omega) (by omega)
    have x0 : ∀ i j : Nat, extD (.tup [iN i, iN j]) 0 = some (iN i) := fun _ _ => rfl
    have x1 : ∀ i j : Nat, extD (.tup [iN i, iN j]) 1 = some (iN j) := fun _ _ => rfl
    simp only [s220, e1, e2, e3, OX_some, x0, x1]
    exact ⟨j3, k3, rfl, rfl, by omega, by omega⟩)
  exact ⟨i, k', e, h1, h2⟩

theorem v201 {S : Store} {id n : Nat} {d : Array Row} (a b : Nat) (hid : id < S.length) (hn : d.size = n) (hab : a < b) (hb : b ≤ n) (h9 : n ≤ 49) :
    ∃ i h k', call dp 201 [arN id n, iN a, iN b, cmpF] (put S id d) = some (.tup [iN i, iN h], put (swB k' :: S) id d) ∧ a ≤ i ∧ i < b := by
  obtain ⟨r, S', e, i, h, k', rfl, rfl, h1, h2⟩ := f201 (arN id n) (iN a) (iN b) cmpF (put S id d) (fun r S' => ∃ i h k', r = .tup [iN i, iN h] ∧ S' = put (swB k' :: S) id d ∧ a ≤ i ∧ i < b) (by
    have m1 : binD .sub .num (iN b) (iN a) = some (iN (b - a)) := sub_N (by omega) (by omega)
    have m2 : binD .quo .num (iN (b - a)) (iN 4) = some (iN ((b - a) / 4)) := quo_N (by omega) (by omega)
    have m3 : binD .mul .num (iN ((b - a) / 4)) (iN 1) = some (iN ((b - a) / 4 * 1)) := mul_N (by omega)
    have m4 : binD .mul .num (iN ((b - a) / 4)) (iN 2) = some (iN ((b - a) / 4 * 2)) := mul_N (by omega)
    have m5 : binD .mul .num (iN ((b - a) / 4)) (iN 3) = some (iN ((b - a) / 4 * 3)) := mul_N (by omega)
    have m6 : binD .add .num (iN a) (iN ((b - a) / 4 * 1)) = some (iN (a + (b - a) / 4 * 1)) := add_N (by omega)
    have m7 : binD .add .num (iN a) (iN ((b - a) / 4 * 2)) = some (iN (a + (b - a) / 4 * 2)) := add_N (by omega)
    have m8 : binD .add .num (iN a) (iN ((b - a) / 4 * 3)) = some (iN (a + (b - a) / 4 * 3)) := add_N (by omega)
    have h50 : ¬ 50 ≤ b - a := by omega
    have hal : Ent.box [iN 0] :: put S id d = put (swB 0 :: S) id d := (put_push d _ hid).symm
    have fin : ∀ i k', a ≤ i → i < b → OX (ldD (put (swB k' :: S) id d) 1 false (.bx S.length 0)) fun x24 => OX (binD .eql .num x24 (iN 0)) fun x25 =>
        WB x25 (∃ i_1 h k'_1, D.tup [iN i, iN 1] = D.tup [iN i_1, iN h] ∧ put (swB k' :: S) id d = put (swB k'_1 :: S) id d ∧ a ≤ i_1 ∧ i_1 < b)
        (OX (binD .eql .num x24 (iN 12)) fun x26 => WB x26 (∃ i_1 h k'_1, D.tup [iN i, iN 2] = D.tup [iN i_1, iN h] ∧ put (swB k' :: S) id d = put (swB k'_1 :: S) id d ∧ a ≤ i_1 ∧ i_1 < b)
          (∃ i_1 h k'_1, D.tup [iN i, iN 0] = D.tup [iN i_1, iN h] ∧ put (swB k' :: S) id d = put (swB k'_1 :: S) id d ∧ a ≤ i_1 ∧ i_1 < b)) := by
      intro i k' h1 h2
      simp only [ld_swB d k' hid, OX_some, eql_N, WB_b]
      split
      · exact ⟨i, 1, k', rfl, rfl, h1, h2⟩
      · split
        · exact ⟨i, 2, k', rfl, rfl, h1, h2⟩
        · exact ⟨i, 0, k', rfl, rfl, h1, h2⟩
    by_cases h8 : 8 ≤ b - a
    · obtain ⟨i, k', e, _, h2⟩ := v220 (S := S) (k := 0) (d := d) (a + (b - a) / 4 * 1) (a + (b - a) / 4 * 2) (a + (b - a) / 4 * 3) hid hn (by omega) (by omega) (by omega) (by omega)
      simp only [s201, l0, l1, l2, l3, l4, l8, l12, l50, m1, m2, m3, m4, m5, m6, m7, m8, OX_some, al_eq, put_len, hal, geq_N, h8, h50, decide_true, decide_false, jnE, WB_b, if_true, Bool.false_eq_true, if_false, e]
      exact fin i k' (by omega) (by omega)
    · simp only [s201, l0, l1, l2, l3, l4, l8, l12, l50, m1, m2, m3, m4, m5, m6, m7, m8, OX_some, al_eq, put_len, hal, geq_N, h8, decide_false, jnE, WB_b, Bool.false_eq_true, if_false]
      exact fin (a + (b - a) / 4 * 2) 0 (by omega) (by omega))
  exact ⟨i, h, k', e, h1, h2⟩

theorem pis {d : Array Row} {a b : Nat} (h : b - a < 50) : Go.Sort.partialInsertionSort ltR d a b = (d, decide (Go.Sort.scanSorted ltR d b (a + 1) = b)) := by
  rw [Go.Sort.partialInsertionSort, Go.Sort.partialIns]
  by_cases e : Go.Sort.scanSorted ltR d b (a + 1) = b
  · simp [e]
  · simp [e, h]

theorem v203 {S : Store} {id n : Nat} {d : Array Row} (a b : Nat) (hid : id < S.length) (hn : d.size = n) (hab : a < b) (hb : b ≤ n) (h9 : n ≤ 49) :
    call dp 203 [arN id n, iN a, iN b, cmpF] (put S id d) = some (.b (Go.Sort.partialInsertionSort ltR d a b).2, put S id d) := by
  rw [pis (by omega)]
  obtain ⟨r, S', e, rfl, rfl⟩ := f203 (arN id n) (iN a) (iN b) cmpF (put S id d) (fun r S' => r = .b (decide (Go.Sort.scanSorted ltR d b (a + 1) = b)) ∧ S' = put S id d) (by
    have m1 : binD .add .num (iN a) (iN 1) = some (iN (a + 1)) := add_N (by omega)
    have m2 : binD .sub .num (iN b) (iN a) = some (iN (b - a)) := sub_N (by omega) (by omega)
    have h50 : b - a < 50 := by omega
    have l5 : D.i .i64 5 = iN 5 := rfl
    simp only [s203, l0, l1, m1, OX_some]
    apply W_step
    rw [← wp_W, e203_3]
    simp only [s203_3, l5, lss_N, show (0 < 5) = True by simp, decide_true, OX_some, WB_b, if_true]
    let J : Nat → List D → Store → Prop := fun q fr S' => ∃ i x16 x36, q = b - i ∧ a < i ∧ i ≤ b ∧ Go.Sort.scanSorted ltR d b i = Go.Sort.scanSorted ltR d b (a + 1) ∧ S' = put S id d ∧
      fr = mkf 141 [(0, arN id n), (1, iN a), (2, iN b), (3, cmpF), (8, .top), (9, iN i), (10, iN 0), (11, .top), (12, .top), (16, x16), (36, x36), (65, .top), (69, .top), (84, .top), (104, .top), (109, .top), (124, .top)]
    refine W_loop J ?_ (b - (a + 1)) _ _ ⟨a + 1, _, _, rfl, by omega, by omega, rfl, rfl, rfl⟩
    rintro q fr S' ⟨i, x16, x36, rfl, hai, hib, hio, rfl, rfl⟩
    rw [← wp_W, e203_2]
    rw [Go.Sort.scanSorted] at hio
    have out : ∀ c : Bool, (c = true → i = b) → ∀ x36, i = Go.Sort.scanSorted ltR d b (a + 1) → s203_r1 (call dp) (arN id n) (iN a) (iN b) cmpF .top (iN i) (iN 0) .top .top .top x36 .top .top .top .top .top .top (put S id d)
        (Qblk 1 (QS (call dp) c203_r2 (Qseq (fun fr' S' => W (call dp) (.loop [] c203_3) fr' S' (Qblk 0 (QS (call dp) c203_r3 (FinK [.t 8] fun r S' => r = D.b (decide (Go.Sort.scanSorted ltR d b (a + 1) = b)) ∧ S' = put S id d)))) (Qblk 0 (QS (call dp) c203_r3 (FinK [.t 8] fun r S' => r = D.b (decide (Go.Sort.scanSorted ltR d b (a + 1) = b)) ∧ S' = put S id d)))))) := by
      intro c _ x36 hi
      rw [← hi]
      by_cases he : i = b
      · simp [s203_r1, eql_N, he]
      · simp [s203_r1, l50, eql_N, lss_N, he, m2, h50]
    by_cases hlt : i < b
    · have i0 := ia_N (id := id) (n := n) (k := i) (by omega)
      have i1 := ia_N (id := id) (n := n) (k := i - 1) (by omega)
      have d0 := ld_N (d := d) (k := i) hid (by omega)
      have d1 := ld_N (d := d) (k := i - 1) hid (by omega)
      have c1 := v123 d[i]! d[i - 1]!
      have m3 : binD .sub .num (iN i) (iN 1) = some (iN (i - 1)) := sub_N (by omega) (by omega)
      have m4 : binD .add .num (iN i) (iN 1) = some (iN (i + 1)) := add_N (by omega)
      cases hc : ltR d[i]! d[i - 1]! with
      | true =>
        rw [if_neg (by simp [hc])] at hio
        simp only [s203_2, l0, l1, lss_N, hlt, decide_true, OX_some, gsel_tt, i0, i1, d0, d1, m3, cmpF, fnD_fn, List.append_nil, c1, lss_c, hc, un_not, Bool.not_true, pick_t, WB_b, Bool.false_eq_true, if_false, Qseq_exit, Qblk_same, QS_normal, e203_r1]
        exact out false (by simp) _ hio
      | false =>
        rw [if_pos (by simp [hc, hlt])] at hio
        simp only [s203_2, l0, l1, lss_N, hlt, decide_true, OX_some, gsel_tt, i0, i1, d0, d1, m3, m4, cmpF, fnD_fn, List.append_nil, c1, lss_c, hc, un_not, Bool.not_false, pick_t, WB_b, if_true, Qseq_normal]
        exact ⟨b - (i + 1), by omega, i + 1, _, _, rfl, by omega, by omega, hio, rfl, rfl⟩
    · rw [if_neg (by simp [hlt])] at hio
      simp only [s203_2, lss_N, hlt, decide_false, OX_some, gsel_ft, gsel_skip, pick_f, WB_b, Bool.false_eq_true, if_false, Qseq_exit, Qblk_same, QS_normal, e203_r1]
      exact out false (by simp) _ hio)
  exact e

end Go.Proofs.YtjlmeikcfdanmaaGreatDoor.DE.V

namespace Go.Proofs.YtjlmeikcfdanmaaGreatDoor.DE.V
open Go

theorem sc204_1 {S : Store} {id n : Nat} {d : Array Row} (a i j : Nat) (x10 x47 x65 x70 : D) {Q : Ex → List D → Store → Prop} (hid : id < S.length) (hn : d.size = n) (ha : a < n) (hj : j < n) (h9 : n ≤ 1000000)
    (hQ : ∀ x47, Q .normal (mkf 90 [(0, arN id n), (1, iN a), (4, cmpF), (10, x10), (11, iN (Go.Sort.scanUp (fun x => !ltR d[a]! x) d j i)), (12, iN j), (47, x47), (65, x65), (70, x70)]) (put S id d)) :
    W (call dp) (.loop [] c204_1) (mkf 90 [(0, arN id n), (1, iN a), (4, cmpF), (10, x10), (11, iN i), (12, iN j), (47, x47), (65, x65), (70, x70)]) (put S id d) (Qblk 2 Q) := by
  let J : Nat → List D → Store → Prop := fun q fr S' => ∃ i' x47, q = j + 1 - i' ∧ Go.Sort.scanUp (fun x => !ltR d[a]! x) d j i' = Go.Sort.scanUp (fun x => !ltR d[a]! x) d j i ∧ S' = put S id d ∧ fr = mkf 90 [(0, arN id n), (1, iN a), (4, cmpF), (10, x10), (11, iN i'), (12, iN j), (47, x47), (65, x65), (70, x70)]
  refine W_loop J ?_ (j + 1 - i) _ _ ⟨i, _, rfl, rfl, rfl, rfl⟩
  rintro q fr S' ⟨i', x47, rfl, hio, rfl, rfl⟩
  rw [← wp_W, e204_1]
  rw [Go.Sort.scanUp] at hio
  by_cases hlt : i' ≤ j
  · have i0 := ia_N (id := id) ha
    have i1 := ia_N (id := id) (n := n) (k := i') (by omega)
    have d0 := ld_N (d := d) (k := a) hid (by omega)
    have d1 := ld_N (d := d) (k := i') hid (by omega)
    have c1 := v123 d[a]! d[i']!
    have m1 : binD .add .num (iN i') (iN 1) = some (iN (i' + 1)) := add_N (by omega)
    cases hc : ltR d[a]! d[i']! with
    | true =>
      rw [if_neg (by simp [hc])] at hio
      simp only [s204_1, l0, leq_N, hlt, decide_true, OX_some, gsel_tt, i0, i1, d0, d1, cmpF, fnD_fn, List.append_nil, c1, lss_c, hc, un_not, Bool.not_true, pick_t, WB_b, Bool.false_eq_true, if_false, Qseq_exit, Qblk_same]
      rw [hio]; exact hQ _
    | false =>
      rw [if_pos (by simp [hlt, hc])] at hio
      simp only [s204_1, l0, l1, leq_N, hlt, decide_true, OX_some, gsel_tt, i0, i1, d0, d1, cmpF, fnD_fn, List.append_nil, c1, m1, lss_c, hc, un_not, Bool.not_false, pick_t, WB_b, if_true, Qseq_normal]
      exact ⟨j + 1 - (i' + 1), by omega, i' + 1, _, rfl, hio, rfl, rfl⟩
  · rw [if_neg (by simp [hlt])] at hio
    simp only [s204_1, leq_N, hlt, decide_false, OX_some, gsel_ft, pick_f, WB_b, Bool.false_eq_true, if_false, Qseq_exit, Qblk_same]
    rw [hio]; exact hQ _

theorem sc204_0 {S : Store} {id n : Nat} {d : Array Row} (a i j : Nat) (x10 x47 x65 x70 : D) {Q : Ex → List D → Store → Prop} (hid : id < S.length) (hn : d.size = n) (ha : a < n) (hi : 1 ≤ i) (hj : j < n) (h9 : n ≤ 1000000)
    (hQ : ∀ x47 x65, Q .normal (mkf 90 [(0, arN id n), (1, iN a), (4, cmpF), (10, x10), (11, iN i), (12, iN (Go.Sort.scanDown (fun x => ltR d[a]! x) d i j)), (47, x47), (65, x65), (70, x70)]) (put S id d)) :
    W (call dp) (.loop [47] c204_0) (mkf 90 [(0, arN id n), (1, iN a), (4, cmpF), (10, x10), (11, iN i), (12, iN j), (47, x47), (65, x65), (70, x70)]) (put S id d) (Qblk 4 Q) := by
  let J : Nat → List D → Store → Prop := fun q fr S' => ∃ x47 x65, q ≤ j ∧ Go.Sort.scanDown (fun x => ltR d[a]! x) d i q = Go.Sort.scanDown (fun x => ltR d[a]! x) d i j ∧ S' = put S id d ∧ fr = mkf 90 [(0, arN id n), (1, iN a), (4, cmpF), (10, x10), (11, iN i), (12, iN q), (47, x47), (65, x65), (70, x70)]
  refine W_loop J ?_ j _ _ ⟨_, _, by omega, rfl, rfl, rfl⟩
  rintro q fr S' ⟨x47, x65, hq, hio, rfl, rfl⟩
  rw [← wp_W, e204_0]
  cases q with
  | zero =>
    have hlt : ¬ i ≤ 0 := by omega
    rw [Go.Sort.scanDown] at hio
    simp only [s204_0, leq_N, hlt, decide_false, OX_some, gsel_ft, pick_f, WB_b, Bool.false_eq_true, if_false, Qseq_exit, Qblk_same]
    rw [← hio] at hQ; exact hQ _ _
  | succ m =>
    rw [Go.Sort.scanDown] at hio
    by_cases hlt : i ≤ m + 1
    · have i0 := ia_N (id := id) ha
      have i1 := ia_N (id := id) (n := n) (k := m + 1) (by omega)
      have d0 := ld_N (d := d) (k := a) hid (by omega)
      have d1 := ld_N (d := d) (k := m + 1) hid (by omega)
      have c1 := v123 d[a]! d[m + 1]!
      have m1 : binD .sub .num (iN (m + 1)) (iN 1) = some (iN m) := sub_N (by omega) (by omega)
      cases hc : ltR d[a]! d[m + 1]! with
      | true =>
        rw [if_pos (by simp [hlt, hc])] at hio
        simp only [s204_0, l0, l1, leq_N, hlt, decide_true, OX_some, gsel_tt, i0, i1, d0, d1, cmpF, fnD_fn, List.append_nil, c1, m1, lss_c, hc, pick_t, WB_b, if_true, Qseq_normal]
        exact ⟨m, by omega, _, _, by omega, hio, rfl, rfl⟩
      | false =>
        rw [if_neg (by simp [hc])] at hio
        simp only [s204_0, l0, leq_N, hlt, decide_true, OX_some, gsel_tt, i0, i1, d0, d1, cmpF, fnD_fn, List.append_nil, c1, lss_c, hc, pick_t, WB_b, Bool.false_eq_true, if_false, Qseq_exit, Qblk_same]
        rw [hio]; exact hQ _ _
    · rw [if_neg (by simp [hlt])] at hio
      simp only [s204_0, leq_N, hlt, decide_false, OX_some, gsel_ft, pick_f, WB_b, Bool.false_eq_true, if_false, Qseq_exit, Qblk_same]
      rw [hio]; exact hQ _ _

theorem sc205_4 {S : Store} {id n : Nat} {d : Array Row} (a i j : Nat) (x10 x11 x47 x66 x120 x139 x144 : D) {Q : Ex → List D → Store → Prop} (hid : id < S.length) (hn : d.size = n) (ha : a < n) (hj : j < n) (h9 : n ≤ 1000000)
    (hQ : ∀ x47, Q .normal (mkf 178 [(0, arN id n), (1, iN a), (4, cmpF), (10, x10), (11, x11), (12, iN (Go.Sort.scanUp (fun x => ltR x d[a]!) d j i)), (13, iN j), (47, x47), (66, x66), (120, x120), (139, x139), (144, x144)]) (put S id d)) :
    W (call dp) (.loop [] c205_4) (mkf 178 [(0, arN id n), (1, iN a), (4, cmpF), (10, x10), (11, x11), (12, iN i), (13, iN j), (47, x47), (66, x66), (120, x120), (139, x139), (144, x144)]) (put S id d) (Qblk 0 Q) := by
  let J : Nat → List D → Store → Prop := fun q fr S' => ∃ i' x47, q = j + 1 - i' ∧ Go.Sort.scanUp (fun x => ltR x d[a]!) d j i' = Go.Sort.scanUp (fun x => ltR x d[a]!) d j i ∧ S' = put S id d ∧ fr = mkf 178 [(0, arN id n), (1, iN a), (4, cmpF), (10, x10), (11, x11), (12, iN i'), (13, iN j), (47, x47), (66, x66), (120, x120), (139, x139), (144, x144)]
  refine W_loop J ?_ (j + 1 - i) _ _ ⟨i, _, rfl, rfl, rfl, rfl⟩
  rintro q fr S' ⟨i', x47, rfl, hio, rfl, rfl⟩
  rw [← wp_W, e205_4]
  rw [Go.Sort.scanUp] at hio
  by_cases hlt : i' ≤ j
  · have i0 := ia_N (id := id) ha
    have i1 := ia_N (id := id) (n := n) (k := i') (by omega)
    have d0 := ld_N (d := d) (k := a) hid (by omega)
    have d1 := ld_N (d := d) (k := i') hid (by omega)
    have c1 := v123 d[i']! d[a]!
    have m1 : binD .add .num (iN i') (iN 1) = some (iN (i' + 1)) := add_N (by omega)
    cases hc : ltR d[i']! d[a]! with
    | true =>
      rw [if_pos (by simp [hlt, hc])] at hio
      simp only [s205_4, l0, l1, leq_N, hlt, decide_true, OX_some, gsel_tt, i0, i1, d0, d1, cmpF, fnD_fn, List.append_nil, c1, m1, lss_c, hc, pick_t, WB_b, if_true, Qseq_normal]
      exact ⟨j + 1 - (i' + 1), by omega, i' + 1, _, rfl, hio, rfl, rfl⟩
    | false =>
      rw [if_neg (by simp [hc])] at hio
      simp only [s205_4, l0, leq_N, hlt, decide_true, OX_some, gsel_tt, i0, i1, d0, d1, cmpF, fnD_fn, List.append_nil, c1, lss_c, hc, pick_t, WB_b, Bool.false_eq_true, if_false, Qseq_exit, Qblk_same]
      rw [hio]; exact hQ _
  · rw [if_neg (by simp [hlt])] at hio
    simp only [s205_4, leq_N, hlt, decide_false, OX_some, gsel_ft, pick_f, WB_b, Bool.false_eq_true, if_false, Qseq_exit, Qblk_same]
    rw [hio]; exact hQ _

theorem sc205_3 {S : Store} {id n : Nat} {d : Array Row} (a i j : Nat) (x10 x11 x47 x66 x120 x139 x144 : D) {Q : Ex → List D → Store → Prop} (hid : id < S.length) (hn : d.size = n) (ha : a < n) (hi : 1 ≤ i) (hj : j < n) (h9 : n ≤ 1000000)
    (hQ : ∀ x47 x66, Q .normal (mkf 178 [(0, arN id n), (1, iN a), (4, cmpF), (10, x10), (11, x11), (12, iN i), (13, iN (Go.Sort.scanDown (fun x => !ltR x d[a]!) d i j)), (47, x47), (66, x66), (120, x120), (139, x139), (144, x144)]) (put S id d)) :
    W (call dp) (.loop [47] c205_3) (mkf 178 [(0, arN id n), (1, iN a), (4, cmpF), (10, x10), (11, x11), (12, iN i), (13, iN j), (47, x47), (66, x66), (120, x120), (139, x139), (144, x144)]) (put S id d) (Qblk 2 Q) := by
  let J : Nat → List D → Store → Prop := fun q fr S' => ∃ x47 x66, q ≤ j ∧ Go.Sort.scanDown (fun x => !ltR x d[a]!) d i q = Go.Sort.scanDown (fun x => !ltR x d[a]!) d i j ∧ S' = put S id d ∧ fr = mkf 178 [(0, arN id n), (1, iN a), (4, cmpF), (10, x10), (11, x11), (12, iN i), (13, iN q), (47, x47), (66, x66), (120, x120), (139, x139), (144, x144)]
  refine W_loop J ?_ j _ _ ⟨_, _, by omega, rfl, rfl, rfl⟩
  rintro q fr S' ⟨x47, x66, hq, hio, rfl, rfl⟩
  rw [← wp_W, e205_3]
  cases q with
  | zero =>
    have hlt : ¬ i ≤ 0 := by omega
    rw [Go.Sort.scanDown] at hio
    simp only [s205_3, leq_N, hlt, decide_false, OX_some, gsel_ft, pick_f, WB_b, Bool.false_eq_true, if_false, Qseq_exit, Qblk_same]
    rw [← hio] at hQ; exact hQ _ _
  | succ m =>
    rw [Go.Sort.scanDown] at hio
    by_cases hlt : i ≤ m + 1
    · have i0 := ia_N (id := id) ha
      have i1 := ia_N (id := id) (n := n) (k := m + 1) (by omega)
      have d0 := ld_N (d := d) (k := a) hid (by omega)
      have d1 := ld_N (d := d) (k := m + 1) hid (by omega)
      have c1 := v123 d[m + 1]! d[a]!
      have m1 : binD .sub .num (iN (m + 1)) (iN 1) = some (iN m) := sub_N (by omega) (by omega)
      cases hc : ltR d[m + 1]! d[a]! with
      | true =>
        rw [if_neg (by simp [hc])] at hio
        simp only [s205_3, l0, leq_N, hlt, decide_true, OX_some, gsel_tt, i0, i1, d0, d1, cmpF, fnD_fn, List.append_nil, c1, lss_c, hc, un_not, Bool.not_true, pick_t, WB_b, Bool.false_eq_true, if_false, Qseq_exit, Qblk_same]
        rw [hio]; exact hQ _ _
      | false =>
        rw [if_pos (by simp [hlt, hc])] at hio
        simp only [s205_3, l0, l1, leq_N, hlt, decide_true, OX_some, gsel_tt, i0, i1, d0, d1, cmpF, fnD_fn, List.append_nil, c1, m1, lss_c, hc, un_not, Bool.not_false, pick_t, WB_b, if_true, Qseq_normal]
        exact ⟨m, by omega, _, _, by omega, hio, rfl, rfl⟩
    · rw [if_neg (by simp [hlt])] at hio
      simp only [s205_3, leq_N, hlt, decide_false, OX_some, gsel_ft, pick_f, WB_b, Bool.false_eq_true, if_false, Qseq_exit, Qblk_same]
      rw [hio]; exact hQ _ _

theorem sc205_1 {S : Store} {id n : Nat} {d : Array Row} (a i j : Nat) (x10 x11 x47 x66 x120 x139 x144 : D) {Q : Ex → List D → Store → Prop} (hid : id < S.length) (hn : d.size = n) (ha : a < n) (hj : j < n) (h9 : n ≤ 1000000)
    (hQ : ∀ x120, Q .normal (mkf 178 [(0, arN id n), (1, iN a), (4, cmpF), (10, x10), (11, x11), (12, iN (Go.Sort.scanUp (fun x => ltR x d[a]!) d j i)), (13, iN j), (47, x47), (66, x66), (120, x120), (139, x139), (144, x144)]) (put S id d)) :
    W (call dp) (.loop [] c205_1) (mkf 178 [(0, arN id n), (1, iN a), (4, cmpF), (10, x10), (11, x11), (12, iN i), (13, iN j), (47, x47), (66, x66), (120, x120), (139, x139), (144, x144)]) (put S id d) (Qblk 6 Q) := by
  let J : Nat → List D → Store → Prop := fun q fr S' => ∃ i' x120, q = j + 1 - i' ∧ Go.Sort.scanUp (fun x => ltR x d[a]!) d j i' = Go.Sort.scanUp (fun x => ltR x d[a]!) d j i ∧ S' = put S id d ∧ fr = mkf 178 [(0, arN id n), (1, iN a), (4, cmpF), (10, x10), (11, x11), (12, iN i'), (13, iN j), (47, x47), (66, x66), (120, x120), (139, x139), (144, x144)]
  refine W_loop J ?_ (j + 1 - i) _ _ ⟨i, _, rfl, rfl, rfl, rfl⟩
  rintro q fr S' ⟨i', x120, rfl, hio, rfl, rfl⟩
  rw [← wp_W, e205_1]
  rw [Go.Sort.scanUp] at hio
  by_cases hlt : i' ≤ j
  · have i0 := ia_N (id := id) ha
    have i1 := ia_N (id := id) (n := n) (k := i') (by omega)
    have d0 := ld_N (d := d) (k := a) hid (by omega)
    have d1 := ld_N (d := d) (k := i') hid (by omega)
    have c1 := v123 d[i']! d[a]!
    have m1 : binD .add .num (iN i') (iN 1) = some (iN (i' + 1)) := add_N (by omega)
    cases hc : ltR d[i']! d[a]! with
    | true =>
      rw [if_pos (by simp [hlt, hc])] at hio
      simp only [s205_1, l0, l1, leq_N, hlt, decide_true, OX_some, gsel_tt, i0, i1, d0, d1, cmpF, fnD_fn, List.append_nil, c1, m1, lss_c, hc, pick_t, WB_b, if_true, Qseq_normal]
      exact ⟨j + 1 - (i' + 1), by omega, i' + 1, _, rfl, hio, rfl, rfl⟩
    | false =>
      rw [if_neg (by simp [hc])] at hio
      simp only [s205_1, l0, leq_N, hlt, decide_true, OX_some, gsel_tt, i0, i1, d0, d1, cmpF, fnD_fn, List.append_nil, c1, lss_c, hc, pick_t, WB_b, Bool.false_eq_true, if_false, Qseq_exit, Qblk_same]
      rw [hio]; exact hQ _
  · rw [if_neg (by simp [hlt])] at hio
    simp only [s205_1, leq_N, hlt, decide_false, OX_some, gsel_ft, pick_f, WB_b, Bool.false_eq_true, if_false, Qseq_exit, Qblk_same]
    rw [hio]; exact hQ _

theorem sc205_0 {S : Store} {id n : Nat} {d : Array Row} (a i j : Nat) (x10 x11 x47 x66 x120 x139 x144 : D) {Q : Ex → List D → Store → Prop} (hid : id < S.length) (hn : d.size = n) (ha : a < n) (hi : 1 ≤ i) (hj : j < n) (h9 : n ≤ 1000000)
    (hQ : ∀ x120 x139, Q .normal (mkf 178 [(0, arN id n), (1, iN a), (4, cmpF), (10, x10), (11, x11), (12, iN i), (13, iN (Go.Sort.scanDown (fun x => !ltR x d[a]!) d i j)), (47, x47), (66, x66), (120, x120), (139, x139), (144, x144)]) (put S id d)) :
    W (call dp) (.loop [120] c205_0) (mkf 178 [(0, arN id n), (1, iN a), (4, cmpF), (10, x10), (11, x11), (12, iN i), (13, iN j), (47, x47), (66, x66), (120, x120), (139, x139), (144, x144)]) (put S id d) (Qblk 8 Q) := by
  let J : Nat → List D → Store → Prop := fun q fr S' => ∃ x120 x139, q ≤ j ∧ Go.Sort.scanDown (fun x => !ltR x d[a]!) d i q = Go.Sort.scanDown (fun x => !ltR x d[a]!) d i j ∧ S' = put S id d ∧ fr = mkf 178 [(0, arN id n), (1, iN a), (4, cmpF), (10, x10), (11, x11), (12, iN i), (13, iN q), (47, x47), (66, x66), (120, x120), (139, x139), (144, x144)]
  refine W_loop J ?_ j _ _ ⟨_, _, by omega, rfl, rfl, rfl⟩
  rintro q fr S' ⟨x120, x139, hq, hio, rfl, rfl⟩
  rw [← wp_W, e205_0]
  cases q with
  | zero =>
    have hlt : ¬ i ≤ 0 := by omega
    rw [Go.Sort.scanDown] at hio
    simp only [s205_0, leq_N, hlt, decide_false, OX_some, gsel_ft, pick_f, WB_b, Bool.false_eq_true, if_false, Qseq_exit, Qblk_same]
    rw [← hio] at hQ; exact hQ _ _
  | succ m =>
    rw [Go.Sort.scanDown] at hio
    by_cases hlt : i ≤ m + 1
    · have i0 := ia_N (id := id) ha
      have i1 := ia_N (id := id) (n := n) (k := m + 1) (by omega)
      have d0 := ld_N (d := d) (k := a) hid (by omega)
      have d1 := ld_N (d := d) (k := m + 1) hid (by omega)
      have c1 := v123 d[m + 1]! d[a]!
      have m1 : binD .sub .num (iN (m + 1)) (iN 1) = some (iN m) := sub_N (by omega) (by omega)
      cases hc : ltR d[m + 1]! d[a]! with
      | true =>
        rw [if_neg (by simp [hc])] at hio
        simp only [s205_0, l0, leq_N, hlt, decide_true, OX_some, gsel_tt, i0, i1, d0, d1, cmpF, fnD_fn, List.append_nil, c1, lss_c, hc, un_not, Bool.not_true, pick_t, WB_b, Bool.false_eq_true, if_false, Qseq_exit, Qblk_same]
        rw [hio]; exact hQ _ _
      | false =>
        rw [if_pos (by simp [hlt, hc])] at hio
        simp only [s205_0, l0, l1, leq_N, hlt, decide_true, OX_some, gsel_tt, i0, i1, d0, d1, cmpF, fnD_fn, List.append_nil, c1, m1, lss_c, hc, un_not, Bool.not_false, pick_t, WB_b, if_true, Qseq_normal]
        exact ⟨m, by omega, _, _, by omega, hio, rfl, rfl⟩
    · rw [if_neg (by simp [hlt])] at hio
      simp only [s205_0, leq_N, hlt, decide_false, OX_some, gsel_ft, pick_f, WB_b, Bool.false_eq_true, if_false, Qseq_exit, Qblk_same]
      rw [hio]; exact hQ _ _

end Go.Proofs.YtjlmeikcfdanmaaGreatDoor.DE.V

namespace Go.Proofs.YtjlmeikcfdanmaaGreatDoor.DE.V
open Go

theorem scanUp_le (p : Row → Bool) (d : Array Row) (j i : Nat) : Go.Sort.scanUp p d j i ≤ max i (j + 1) := by
  fun_induction Go.Sort.scanUp p d j i
  · rename_i h ih
    simp at h; omega
  · omega

theorem v204 {S : Store} {id n : Nat} {d : Array Row} (a b pv : Nat) (hid : id < S.length) (hn : d.size = n) (ha : a ≤ pv) (hp : pv < b) (hb : b ≤ n) (h9 : n ≤ 1000000) :
    call dp 204 [arN id n, iN a, iN b, iN pv, cmpF] (put S id d) = some (iN (Go.Sort.partitionEqual ltR d a b pv).1, put S id (Go.Sort.partitionEqual ltR d a b pv).2) := by
  obtain ⟨r, S', e, rfl, rfl⟩ := f204 (arN id n) (iN a) (iN b) (iN pv) cmpF (put S id d) (fun r S' => r = iN (Go.Sort.partitionEqual ltR d a b pv).1 ∧ S' = put S id (Go.Sort.partitionEqual ltR d a b pv).2) (by
    have i0 := ia_N (id := id) (n := n) (k := a) (by omega)
    have i1 := ia_N (id := id) (n := n) (k := pv) (by omega)
    have d0 := ld_N (d := d) (k := a) hid (by omega)
    have d1 := ld_N (d := d) (k := pv) hid (by omega)
    have s1 := st_N (d := d) (k := a) d[pv]! hid (by omega)
    have s2 := st_N (d := d.setIfInBounds a d[pv]!) (k := pv) d[a]! hid (by simp; omega)
    have m1 : binD .add .num (iN a) (iN 1) = some (iN (a + 1)) := add_N (by omega)
    have m2 : binD .sub .num (iN b) (iN 1) = some (iN (b - 1)) := sub_N (by omega) (by omega)
    simp only [s204, l1, i0, i1, d0, d1, OX_some, s1, s2, m1, m2]
    let J : Nat → List D → Store → Prop := fun q fr S' => ∃ i j d' x10 x47 x65 x70, q = j + 1 - i ∧ a < i ∧ i ≤ n ∧ j < n ∧ d'.size = n ∧ Go.Sort.partEqLoop ltR a i j d' = Go.Sort.partitionEqual ltR d a b pv ∧ S' = put S id d' ∧
      fr = mkf 90 [(0, arN id n), (1, iN a), (4, cmpF), (10, x10), (11, iN i), (12, iN j), (47, x47), (65, x65), (70, x70)]
    refine W_loop J ?_ (b - 1 + 1 - (a + 1)) _ _ ⟨a + 1, b - 1, Go.Sort.swp d a pv, _, _, _, _, rfl, by omega, by omega, by omega, (swp_size _ _ _).trans hn, rfl, rfl, rfl⟩
    rintro q fr S' ⟨i, j, d', x10, x47, x65, x70, rfl, hai, hij, hj, hn', hio, rfl, rfl⟩
    rw [← wp_W, e204_2]
    rw [Go.Sort.partEqLoop_eq] at hio
    simp only [s204_2]
    refine sc204_1 a i j _ _ _ _ hid hn' (by omega) hj h9 ?_
    intro x47
    have u1 := Go.Sort.scanUp_ge (fun x => !ltR d'[a]! x) d' j i
    have u2 := scanUp_le (fun x => !ltR d'[a]! x) d' j i
    generalize Go.Sort.scanUp (fun x => !ltR d'[a]! x) d' j i = i2 at *
    simp only [QS_normal, e204_r1, s204_r1]
    refine sc204_0 a i2 j _ _ _ _ hid hn' (by omega) (by omega) hj h9 ?_
    intro x47 x65
    have v1 := Go.Sort.scanDown_le (fun x => ltR d'[a]! x) d' i2 j
    generalize Go.Sort.scanDown (fun x => ltR d'[a]! x) d' i2 j = j2 at *
    simp only [QS_normal, e204_r0]
    by_cases h : j2 < i2
    · rw [if_pos h] at hio
      simp only [s204_r0, gtr_N, h, decide_true, OX_some, WB_b, if_true, Qblk_other 1 0 rfl, Qseq_exit, Qblk_same, QS_normal, e204_r2, s204_r2, FinK_ret1]
      simp [← hio]
    · rw [if_neg h] at hio
      have i0 := ia_N (id := id) (n := n) (k := i2) (by omega)
      have i1 := ia_N (id := id) (n := n) (k := j2) (by omega)
      have d0 := ld_N (d := d') (k := i2) hid (by omega)
      have d1 := ld_N (d := d') (k := j2) hid (by omega)
      have s1 := st_N (d := d') (k := i2) d'[j2]! hid (by omega)
      have s2 := st_N (d := d'.setIfInBounds i2 d'[j2]!) (k := j2) d'[i2]! hid (by simp; omega)
      have m1 : binD .add .num (iN i2) (iN 1) = some (iN (i2 + 1)) := add_N (by omega)
      have m2 : binD .sub .num (iN j2) (iN 1) = some (iN (j2 - 1)) := sub_N (by omega) (by omega)
      simp only [s204_r0, l1, gtr_N, h, decide_false, OX_some, WB_b, Bool.false_eq_true, if_false, i0, i1, d0, d1, s1, s2, m1, m2, Qblk_normal, Qseq_normal]
      exact ⟨j2 - 1 + 1 - (i2 + 1), by omega, i2 + 1, j2 - 1, Go.Sort.swp d' i2 j2, _, _, _, _, rfl, by omega, by omega, by omega, (swp_size _ _ _).trans hn', hio, rfl, rfl⟩)
  exact e

theorem v205 {S : Store} {id n : Nat} {d : Array Row} (a b pv : Nat) (hid : id < S.length) (hn : d.size = n) (ha : a ≤ pv) (hp : pv < b) (hb : b ≤ n) (h9 : n ≤ 1000000) :
    call dp 205 [arN id n, iN a, iN b, iN pv, cmpF] (put S id d) = some (.tup [iN (Go.Sort.partition ltR d a b pv).1, .b (Go.Sort.partition ltR d a b pv).2.1], put S id (Go.Sort.partition ltR d a b pv).2.2) := by
  obtain ⟨P, hP⟩ : ∃ P, P = Go.Sort.partition ltR d a b pv := ⟨_, rfl⟩
  rw [← hP]
  obtain ⟨r, S', e, rfl, rfl⟩ := f205 (arN id n) (iN a) (iN b) (iN pv) cmpF (put S id d) (fun r S' => r = .tup [iN P.1, .b P.2.1] ∧ S' = put S id P.2.2) (by
    have i0 := ia_N (id := id) (n := n) (k := a) (by omega)
    have i1 := ia_N (id := id) (n := n) (k := pv) (by omega)
    have d0 := ld_N (d := d) (k := a) hid (by omega)
    have d1 := ld_N (d := d) (k := pv) hid (by omega)
    have s1 := st_N (d := d) (k := a) d[pv]! hid (by omega)
    have s2 := st_N (d := d.setIfInBounds a d[pv]!) (k := pv) d[a]! hid (by simp; omega)
    have m1 : binD .add .num (iN a) (iN 1) = some (iN (a + 1)) := add_N (by omega)
    have m2 : binD .sub .num (iN b) (iN 1) = some (iN (b - 1)) := sub_N (by omega) (by omega)
    have hsw : (d.setIfInBounds a d[pv]!).setIfInBounds pv d[a]! = Go.Sort.swp d a pv := rfl
    simp only [s205, l1, i0, i1, d0, d1, OX_some, s1, s2, m1, m2, hsw]
    simp only [Go.Sort.partition] at hP
    have hn1 : (Go.Sort.swp d a pv).size = n := (swp_size _ _ _).trans hn
    generalize Go.Sort.swp d a pv = e at *
    refine sc205_4 a (a + 1) (b - 1) _ _ _ _ _ _ _ hid hn1 (by omega) (by omega) h9 ?_
    intro x47
    have u1 := Go.Sort.scanUp_ge (fun x => ltR x e[a]!) e (b - 1) (a + 1)
    have u2 := scanUp_le (fun x => ltR x e[a]!) e (b - 1) (a + 1)
    generalize Go.Sort.scanUp (fun x => ltR x e[a]!) e (b - 1) (a + 1) = i at *
    simp only [QS_normal, e205_r4, s205_r4]
    refine sc205_3 a i (b - 1) _ _ _ _ _ _ _ hid hn1 (by omega) (by omega) (by omega) h9 ?_
    intro x47 x66
    have v1 := Go.Sort.scanDown_le (fun x => !ltR x e[a]!) e i (b - 1)
    generalize Go.Sort.scanDown (fun x => !ltR x e[a]!) e i (b - 1) = j at *
    simp only [QS_normal, e205_r3]
    have i0 := ia_N (id := id) (n := n) (k := a) (by omega)
    have i1 := ia_N (id := id) (n := n) (k := j) (by omega)
    have d0 := ld_N (d := e) (k := a) hid (by omega)
    have d1 := ld_N (d := e) (k := j) hid (by omega)
    by_cases h : j < i
    · rw [if_pos h] at hP
      have s1 := st_N (d := e) (k := j) e[a]! hid (by omega)
      have s2 := st_N (d := e.setIfInBounds j e[a]!) (k := a) e[j]! hid (by simp; omega)
      subst hP
      simp only [s205_r3, gtr_N, h, decide_true, OX_some, WB_b, if_true, i0, i1, d0, d1, s1, s2, FinK_ret2]
      exact ⟨rfl, rfl⟩
    · rw [if_neg h] at hP
      have i2 := ia_N (id := id) (n := n) (k := i) (by omega)
      have d2 := ld_N (d := e) (k := i) hid (by omega)
      have s1 := st_N (d := e) (k := i) e[j]! hid (by omega)
      have s2 := st_N (d := e.setIfInBounds i e[j]!) (k := j) e[i]! hid (by simp; omega)
      have m1 : binD .add .num (iN i) (iN 1) = some (iN (i + 1)) := add_N (by omega)
      have m2 : binD .sub .num (iN j) (iN 1) = some (iN (j - 1)) := sub_N (by omega) (by omega)
      simp only [s205_r3, l1, gtr_N, h, decide_false, OX_some, WB_b, Bool.false_eq_true, if_false, i1, i2, d1, d2, s1, s2, m1, m2]
      let J : Nat → List D → Store → Prop := fun q fr S' => ∃ i j d' x10 x11 x47 x66 x120 x139 x144, q = j + 1 - i ∧ a < i ∧ i ≤ n ∧ j < n ∧ d'.size = n ∧
        P = (let r := Go.Sort.partLoop ltR a i j d'; (r.1, false, Go.Sort.swp r.2 r.1 a)) ∧ S' = put S id d' ∧
        fr = mkf 178 [(0, arN id n), (1, iN a), (4, cmpF), (10, x10), (11, x11), (12, iN i), (13, iN j), (47, x47), (66, x66), (120, x120), (139, x139), (144, x144)]
      refine W_loop J ?_ (j - 1 + 1 - (i + 1)) _ _ ⟨i + 1, j - 1, Go.Sort.swp e i j, _, _, _, _, _, _, _, rfl, by omega, by omega, by omega, (swp_size _ _ _).trans hn1, hP, rfl, rfl⟩
      clear hP i0 i1 i2 d0 d1 d2 s1 s2 m1 m2
      rintro q fr S' ⟨i, j, d', x10, x11, x47, x66, x120, x139, x144, rfl, hai, hij, hj, hn', hP, rfl, rfl⟩
      rw [← wp_W, e205_2]
      rw [Go.Sort.partLoop_eq] at hP
      simp only [s205_2]
      refine sc205_1 a i j _ _ _ _ _ _ _ hid hn' (by omega) hj h9 ?_
      intro x120
      have u1 := Go.Sort.scanUp_ge (fun x => ltR x d'[a]!) d' j i
      have u2 := scanUp_le (fun x => ltR x d'[a]!) d' j i
      generalize Go.Sort.scanUp (fun x => ltR x d'[a]!) d' j i = i2 at *
      simp only [QS_normal, e205_r1, s205_r1]
      refine sc205_0 a i2 j _ _ _ _ _ _ _ hid hn' (by omega) (by omega) hj h9 ?_
      intro x120 x139
      have v1 := Go.Sort.scanDown_le (fun x => !ltR x d'[a]!) d' i2 j
      generalize Go.Sort.scanDown (fun x => !ltR x d'[a]!) d' i2 j = j2 at *
      simp only [QS_normal, e205_r0]
      by_cases h : j2 < i2
      · rw [if_pos h] at hP
        have i0 := ia_N (id := id) (n := n) (k := a) (by omega)
        have i1 := ia_N (id := id) (n := n) (k := j2) (by omega)
        have d0 := ld_N (d := d') (k := a) hid (by omega)
        have d1 := ld_N (d := d') (k := j2) hid (by omega)
        have s1 := st_N (d := d') (k := j2) d'[a]! hid (by omega)
        have s2 := st_N (d := d'.setIfInBounds j2 d'[a]!) (k := a) d'[j2]! hid (by simp; omega)
        subst hP
        simp only [s205_r0, gtr_N, h, decide_true, OX_some, WB_b, if_true, Qblk_other 5 4 rfl, Qseq_exit, Qblk_same, QS_normal, e205_r2, s205_r2, i0, i1, d0, d1, s1, s2]
        exact ⟨rfl, rfl⟩
      · rw [if_neg h] at hP
        have i0 := ia_N (id := id) (n := n) (k := i2) (by omega)
        have i1 := ia_N (id := id) (n := n) (k := j2) (by omega)
        have d0 := ld_N (d := d') (k := i2) hid (by omega)
        have d1 := ld_N (d := d') (k := j2) hid (by omega)
        have s1 := st_N (d := d') (k := i2) d'[j2]! hid (by omega)
        have s2 := st_N (d := d'.setIfInBounds i2 d'[j2]!) (k := j2) d'[i2]! hid (by simp; omega)
        have m1 : binD .add .num (iN i2) (iN 1) = some (iN (i2 + 1)) := add_N (by omega)
        have m2 : binD .sub .num (iN j2) (iN 1) = some (iN (j2 - 1)) := sub_N (by omega) (by omega)
        simp only [s205_r0, l1, gtr_N, h, decide_false, OX_some, WB_b, Bool.false_eq_true, if_false, i0, i1, d0, d1, s1, s2, m1, m2, Qblk_normal, Qseq_normal]
        exact ⟨j2 - 1 + 1 - (i2 + 1), by omega, i2 + 1, j2 - 1, Go.Sort.swp d' i2 j2, _, _, _, _, _, _, _, rfl, by omega, by omega, by omega, (swp_size _ _ _).trans hn', hP, rfl, rfl⟩)
  exact e

end Go.Proofs.YtjlmeikcfdanmaaGreatDoor.DE.V

namespace Go.Proofs.YtjlmeikcfdanmaaGreatDoor.DE.V
open Go
set_option maxRecDepth 20000

def uN (k : Nat) : D := .i .u64 (k : Int)

theorem wrapU (n : Int) : ∃ y : Nat, y < 18446744073709551616 ∧ IntKind.wrap .u64 n = y := by
  have e : IntKind.wrap .u64 n = n % 18446744073709551616 := by simp [IntKind.wrap, IntKind.signed, IntKind.bits]
  rw [e]
  exact ⟨(n % 18446744073709551616).toNat, by omega, by omega⟩
theorem wrapUN {n : Nat} (h : n < 18446744073709551616) : IntKind.wrap .u64 (n : Int) = n := by
  have e : (n : Int) % 18446744073709551616 = n := by omega
  simp [IntKind.wrap, IntKind.signed, IntKind.bits, e]
theorem wrapB {n : Nat} (h : n < 256) : IntKind.wrap .u8 (n : Int) = n := by
  have e : (n : Int) % 256 = n := by omega
  simp [IntKind.wrap, IntKind.signed, IntKind.bits, e]
theorem cv (k k' : IntKind) (n : Int) : convD k (.i k' n) = some (.i k (k.wrap n)) := (rfl)
theorem cv1 {l : Nat} (h : l < 4000000000) : convD .u64 (iN l) = some (uN l) := by rw [iN, cv, wrapUN (by omega)]; rfl
theorem cv2 {l : Nat} (h : l < 256) : convD .u8 (uN l) = some (.i .u8 l) := by rw [uN, cv, wrapB h]
theorem cv3 {k : IntKind} {l : Nat} (h : l < 4000000000) : convD .i64 (.i k l) = some (iN l) := by rw [cv, wrap64 ⟨by omega, by omega⟩]; rfl

theorem len50 : ∀ l : Nat, l < 50 → ([0, 1, 2, 2, 3, 3, 3, 3, 4, 4, 4, 4, 4, 4, 4, 4, 5, 5, 5, 5, 5, 5, 5, 5, 5, 5, 5, 5, 5, 5, 5, 5, 6, 6, 6, 6, 6, 6, 6, 6, 6, 6, 6, 6, 6, 6, 6, 6, 6, 6, 6, 6, 6, 6, 6, 6, 6, 6, 6, 6, 6, 6, 6, 6, 7, 7, 7, 7, 7, 7, 7, 7, 7, 7, 7, 7, 7, 7, 7, 7, 7, 7, 7, 7, 7, 7, 7, 7, 7, 7, 7, 7, 7, 7, 7, 7, 7, 7, 7, 7, 7, 7, 7, 7, 7, 7, 7, 7, 7, 7, 7, 7, 7, 7, 7, 7, 7, 7, 7, 7, 7, 7, 7, 7, 7, 7, 7, 7, 8, 8, 8, 8, 8, 8, 8, 8, 8, 8, 8, 8, 8, 8, 8, 8, 8, 8, 8, 8, 8, 8, 8, 8, 8, 8, 8, 8, 8, 8, 8, 8, 8, 8, 8, 8, 8, 8, 8, 8, 8, 8, 8, 8, 8, 8, 8, 8, 8, 8, 8, 8, 8, 8, 8, 8, 8, 8, 8, 8, 8, 8, 8, 8, 8, 8, 8, 8, 8, 8, 8, 8, 8, 8, 8, 8, 8, 8, 8, 8, 8, 8, 8, 8, 8, 8, 8, 8, 8, 8, 8, 8, 8, 8, 8, 8, 8, 8, 8, 8, 8, 8, 8, 8, 8, 8, 8, 8, 8, 8, 8, 8, 8, 8, 8, 8, 8, 8, 8, 8, 8, 8, 8, 8, 8, 8, 8, 8] : List UInt8)[l]? = some (([0, 1, 2, 2, 3, 3, 3, 3, 4, 4, 4, 4, 4, 4, 4, 4, 5, 5, 5, 5, 5, 5, 5, 5, 5, 5, 5, 5, 5, 5, 5, 5, 6, 6, 6, 6, 6, 6, 6, 6, 6, 6, 6, 6, 6, 6, 6, 6, 6, 6, 6, 6, 6, 6, 6, 6, 6, 6, 6, 6, 6, 6, 6, 6, 7, 7, 7, 7, 7, 7, 7, 7, 7, 7, 7, 7, 7, 7, 7, 7, 7, 7, 7, 7, 7, 7, 7, 7, 7, 7, 7, 7, 7, 7, 7, 7, 7, 7, 7, 7, 7, 7, 7, 7, 7, 7, 7, 7, 7, 7, 7, 7, 7, 7, 7, 7, 7, 7, 7, 7, 7, 7, 7, 7, 7, 7, 7, 7, 8, 8, 8, 8, 8, 8, 8, 8, 8, 8, 8, 8, 8, 8, 8, 8, 8, 8, 8, 8, 8, 8, 8, 8, 8, 8, 8, 8, 8, 8, 8, 8, 8, 8, 8, 8, 8, 8, 8, 8, 8, 8, 8, 8, 8, 8, 8, 8, 8, 8, 8, 8, 8, 8, 8, 8, 8, 8, 8, 8, 8, 8, 8, 8, 8, 8, 8, 8, 8, 8, 8, 8, 8, 8, 8, 8, 8, 8, 8, 8, 8, 8, 8, 8, 8, 8, 8, 8, 8, 8, 8, 8, 8, 8, 8, 8, 8, 8, 8, 8, 8, 8, 8, 8, 8, 8, 8, 8, 8, 8, 8, 8, 8, 8, 8, 8, 8, 8, 8, 8, 8, 8, 8, 8, 8, 8, 8, 8] : List UInt8)[l]?.getD 0) ∧ (([0, 1, 2, 2, 3, 3, 3, 3, 4, 4, 4, 4, 4, 4, 4, 4, 5, 5, 5, 5, 5, 5, 5, 5, 5, 5, 5, 5, 5, 5, 5, 5, 6, 6, 6, 6, 6, 6, 6, 6, 6, 6, 6, 6, 6, 6, 6, 6, 6, 6, 6, 6, 6, 6, 6, 6, 6, 6, 6, 6, 6, 6, 6, 6, 7, 7, 7, 7, 7, 7, 7, 7, 7, 7, 7, 7, 7, 7, 7, 7, 7, 7, 7, 7, 7, 7, 7, 7, 7, 7, 7, 7, 7, 7, 7, 7, 7, 7, 7, 7, 7, 7, 7, 7, 7, 7, 7, 7, 7, 7, 7, 7, 7, 7, 7, 7, 7, 7, 7, 7, 7, 7, 7, 7, 7, 7, 7, 7, 8, 8, 8, 8, 8, 8, 8, 8, 8, 8, 8, 8, 8, 8, 8, 8, 8, 8, 8, 8, 8, 8, 8, 8, 8, 8, 8, 8, 8, 8, 8, 8, 8, 8, 8, 8, 8, 8, 8, 8, 8, 8, 8, 8, 8, 8, 8, 8, 8, 8, 8, 8, 8, 8, 8, 8, 8, 8, 8, 8, 8, 8, 8, 8, 8, 8, 8, 8, 8, 8, 8, 8, 8, 8, 8, 8, 8, 8, 8, 8, 8, 8, 8, 8, 8, 8, 8, 8, 8, 8, 8, 8, 8, 8, 8, 8, 8, 8, 8, 8, 8, 8, 8, 8, 8, 8, 8, 8, 8, 8, 8, 8, 8, 8, 8, 8, 8, 8, 8, 8, 8, 8, 8, 8, 8, 8, 8, 8] : List UInt8)[l]?.getD 0).toNat ≤ 6 ∧ (1 ≤ l → 2 ^ (([0, 1, 2, 2, 3, 3, 3, 3, 4, 4, 4, 4, 4, 4, 4, 4, 5, 5, 5, 5, 5, 5, 5, 5, 5, 5, 5, 5, 5, 5, 5, 5, 6, 6, 6, 6, 6, 6, 6, 6, 6, 6, 6, 6, 6, 6, 6, 6, 6, 6, 6, 6, 6, 6, 6, 6, 6, 6, 6, 6, 6, 6, 6, 6, 7, 7, 7, 7, 7, 7, 7, 7, 7, 7, 7, 7, 7, 7, 7, 7, 7, 7, 7, 7, 7, 7, 7, 7, 7, 7, 7, 7, 7, 7, 7, 7, 7, 7, 7, 7, 7, 7, 7, 7, 7, 7, 7, 7, 7, 7, 7, 7, 7, 7, 7, 7, 7, 7, 7, 7, 7, 7, 7, 7, 7, 7, 7, 7, 8, 8, 8, 8, 8, 8, 8, 8, 8, 8, 8, 8, 8, 8, 8, 8, 8, 8, 8, 8, 8, 8, 8, 8, 8, 8, 8, 8, 8, 8, 8, 8, 8, 8, 8, 8, 8, 8, 8, 8, 8, 8, 8, 8, 8, 8, 8, 8, 8, 8, 8, 8, 8, 8, 8, 8, 8, 8, 8, 8, 8, 8, 8, 8, 8, 8, 8, 8, 8, 8, 8, 8, 8, 8, 8, 8, 8, 8, 8, 8, 8, 8, 8, 8, 8, 8, 8, 8, 8, 8, 8, 8, 8, 8, 8, 8, 8, 8, 8, 8, 8, 8, 8, 8, 8, 8, 8, 8, 8, 8, 8, 8, 8, 8, 8, 8, 8, 8, 8, 8, 8, 8, 8, 8, 8, 8, 8, 8] : List UInt8)[l]?.getD 0).toNat ≤ 2 * l) := by decide

theorem v207 (l : Nat) (h : l < 50) : ∃ v : Nat, isoCall (call dp) 207 [uN l] = some (iN v) ∧ v ≤ 6 ∧ (1 ≤ l → 2 ^ v ≤ 2 * l) := by
  obtain ⟨h1, h2, h3⟩ := len50 l h
  refine ⟨_, ?_, h2, h3⟩
  generalize hc : ([0, 1, 2, 2, 3, 3, 3, 3, 4, 4, 4, 4, 4, 4, 4, 4, 5, 5, 5, 5, 5, 5, 5, 5, 5, 5, 5, 5, 5, 5, 5, 5, 6, 6, 6, 6, 6, 6, 6, 6, 6, 6, 6, 6, 6, 6, 6, 6, 6, 6, 6, 6, 6, 6, 6, 6, 6, 6, 6, 6, 6, 6, 6, 6, 7, 7, 7, 7, 7, 7, 7, 7, 7, 7, 7, 7, 7, 7, 7, 7, 7, 7, 7, 7, 7, 7, 7, 7, 7, 7, 7, 7, 7, 7, 7, 7, 7, 7, 7, 7, 7, 7, 7, 7, 7, 7, 7, 7, 7, 7, 7, 7, 7, 7, 7, 7, 7, 7, 7, 7, 7, 7, 7, 7, 7, 7, 7, 7, 8, 8, 8, 8, 8, 8, 8, 8, 8, 8, 8, 8, 8, 8, 8, 8, 8, 8, 8, 8, 8, 8, 8, 8, 8, 8, 8, 8, 8, 8, 8, 8, 8, 8, 8, 8, 8, 8, 8, 8, 8, 8, 8, 8, 8, 8, 8, 8, 8, 8, 8, 8, 8, 8, 8, 8, 8, 8, 8, 8, 8, 8, 8, 8, 8, 8, 8, 8, 8, 8, 8, 8, 8, 8, 8, 8, 8, 8, 8, 8, 8, 8, 8, 8, 8, 8, 8, 8, 8, 8, 8, 8, 8, 8, 8, 8, 8, 8, 8, 8, 8, 8, 8, 8, 8, 8, 8, 8, 8, 8, 8, 8, 8, 8, 8, 8, 8, 8, 8, 8, 8, 8, 8, 8, 8, 8, 8, 8] : List UInt8)[l]?.getD 0 = c at *
  have hix : ixsD (.s ([0, 1, 2, 2, 3, 3, 3, 3, 4, 4, 4, 4, 4, 4, 4, 4, 5, 5, 5, 5, 5, 5, 5, 5, 5, 5, 5, 5, 5, 5, 5, 5, 6, 6, 6, 6, 6, 6, 6, 6, 6, 6, 6, 6, 6, 6, 6, 6, 6, 6, 6, 6, 6, 6, 6, 6, 6, 6, 6, 6, 6, 6, 6, 6, 7, 7, 7, 7, 7, 7, 7, 7, 7, 7, 7, 7, 7, 7, 7, 7, 7, 7, 7, 7, 7, 7, 7, 7, 7, 7, 7, 7, 7, 7, 7, 7, 7, 7, 7, 7, 7, 7, 7, 7, 7, 7, 7, 7, 7, 7, 7, 7, 7, 7, 7, 7, 7, 7, 7, 7, 7, 7, 7, 7, 7, 7, 7, 7, 8, 8, 8, 8, 8, 8, 8, 8, 8, 8, 8, 8, 8, 8, 8, 8, 8, 8, 8, 8, 8, 8, 8, 8, 8, 8, 8, 8, 8, 8, 8, 8, 8, 8, 8, 8, 8, 8, 8, 8, 8, 8, 8, 8, 8, 8, 8, 8, 8, 8, 8, 8, 8, 8, 8, 8, 8, 8, 8, 8, 8, 8, 8, 8, 8, 8, 8, 8, 8, 8, 8, 8, 8, 8, 8, 8, 8, 8, 8, 8, 8, 8, 8, 8, 8, 8, 8, 8, 8, 8, 8, 8, 8, 8, 8, 8, 8, 8, 8, 8, 8, 8, 8, 8, 8, 8, 8, 8, 8, 8, 8, 8, 8, 8, 8, 8, 8, 8, 8, 8, 8, 8, 8, 8, 8, 8, 8, 8] : List UInt8)) (.i .u8 l) = some (.i .u8 c.toNat) := by
    simp only [ixsD]
    rw [if_pos (by omega), Int.toNat_natCast, h1]
    rfl
  have a1 : ¬ (4294967296 : Int) ≤ l := by omega
  have a2 : ¬ (65536 : Int) ≤ l := by omega
  have a3 : ¬ (256 : Int) ≤ l := by omega
  have c2 : convD .u8 (.i .u64 l) = some (.i .u8 l) := cv2 (by omega)
  have c3 := cv3 (k := .u8) (l := c.toNat) (by omega)
  have m1 : binD .add .num (iN 0) (iN c.toNat) = some (iN (0 + c.toNat)) := add_N (by omega)
  rw [Nat.zero_add] at m1
  apply i207 _ _ rfl rfl
  have hs : strip (uN l) = .i .u64 l := rfl
  rw [hs]
  simp only [s207, bin_geq, a1, a2, a3, decide_false, OX_some, jnE, WB_b, Bool.false_eq_true, if_false, c2, hix, c3, l0, m1]
  rfl

theorem v175 (l : Nat) (h : l < 50) : ∃ v : Nat, isoCall (call dp) 175 [uN l] = some (iN v) ∧ v ≤ 6 ∧ (1 ≤ l → 2 ^ v ≤ 2 * l) := by
  obtain ⟨v, e, h2, h3⟩ := v207 l h
  refine ⟨v, ?_, h2, h3⟩
  apply i175 _ _ rfl rfl
  have hs : strip (uN l) = uN l := rfl
  rw [hs]
  simp only [s175, WB_b, Bool.false_eq_true, if_false, e, OX_some]
  rfl

theorem shlU {v : Nat} (h : v ≤ 6) : binD .shl .num (.i .u64 1) (iN v) = some (uN (2 ^ v)) := by
  have h2 : 2 ^ v ≤ 2 ^ 6 := Nat.pow_le_pow_right (by omega) h
  have hm : min v 64 = v := by omega
  simp only [binD, shOp, iN]
  rw [if_neg (by omega)]
  simp only [IntKind.bits, Int.toNat_natCast, hm, Int.one_mul]
  have e : (2 : Int) ^ v = ((2 ^ v : Nat) : Int) := by simp
  rw [e]
  generalize 2 ^ v = m at *
  rw [wrapUN (by omega)]; rfl

theorem v217 (l : Nat) (h : l < 50) (h1 : 1 ≤ l) : ∃ m : Nat, isoCall (call dp) 217 [iN l] = some (uN m) ∧ 1 ≤ m ∧ m ≤ 2 * l := by
  obtain ⟨v, e, h2, h3⟩ := v175 l h
  refine ⟨2 ^ v, ?_, Nat.one_le_two_pow, h3 h1⟩
  apply i217 _ _ rfl rfl
  have hs : strip (iN l) = iN l := rfl
  rw [hs]
  simp only [s217, cv1 (l := l) (by omega), OX_some, e, shlU h2]
  rfl

/-! The random numbers: only that they are numbers. -/
theorem shlX (a s : Nat) : ∃ y : Nat, binD .shl .num (uN a) (.i .u64 s) = some (uN y) := by
  simp only [binD, shOp, uN]
  rw [if_neg (by omega)]
  obtain ⟨y, _, e⟩ := wrapU ((a : Int) * 2 ^ min (s : Int).toNat 64)
  exact ⟨y, by simp only [IntKind.bits]; rw [e]⟩
theorem shrX (a s : Nat) : ∃ y : Nat, binD .shr .num (uN a) (.i .u64 s) = some (uN y) := by
  simp only [binD, shOp, uN]
  rw [if_neg (by omega)]
  refine ⟨a / 2 ^ min (s : Int).toNat 64, ?_⟩
  have e : (2 : Int) ^ min (s : Int).toNat 64 = ((2 ^ min (s : Int).toNat 64 : Nat) : Int) := by simp
  simp only [IntKind.bits]
  rw [e, ← Int.ofNat_fdiv]
theorem xorX (a b : Nat) : ∃ y : Nat, y < 18446744073709551616 ∧ binD .xor .num (uN a) (uN b) = some (uN y) := by
  simp only [binD, intOp, uN, if_true]
  obtain ⟨y, h, e⟩ := wrapU ((BitVec.ofInt IntKind.u64.bits a ^^^ BitVec.ofInt IntKind.u64.bits b).toNat : Int)
  exact ⟨y, h, by rw [e]⟩
theorem andX (a b : Nat) (hb : b < 18446744073709551616) : ∃ y : Nat, y ≤ b ∧ binD .and .num (uN a) (uN b) = some (uN y) := by
  simp only [binD, intOp, uN, if_true]
  have h : (BitVec.ofInt 64 (a : Int) &&& BitVec.ofInt 64 (b : Int)).toNat ≤ b := by
    have e : (BitVec.ofInt 64 (b : Int)).toNat = b := by simp; omega
    rw [BitVec.toNat_and, e]
    exact Nat.and_le_right
  refine ⟨_, h, ?_⟩
  have : (BitVec.ofInt 64 (a : Int) &&& BitVec.ofInt 64 (b : Int)).toNat < 18446744073709551616 := by omega
  exact congrArg (fun z => some (D.i .u64 z)) (wrapUN this)

def xB (x : Nat) : Ent := .box [uN x]
theorem sget_xB {S : Store} {id : Nat} (d : Array Row) (k : Nat) (h : id < S.length) : sget (put (xB k :: S) id d) S.length = some (xB k) := by
  rw [sget_put_ne _ (by omega)]; simp
theorem ld_xB {S : Store} {id : Nat} (d : Array Row) (k : Nat) (h : id < S.length) : ldD (put (xB k :: S) id d) 1 false (.bx S.length 0) = some (uN k) := by
  simp only [ldD_bx, sget_xB d k h]; rfl
theorem st_xB {S : Store} {id : Nat} (d : Array Row) (k m : Nat) (h : id < S.length) : stD (put (xB k :: S) id d) 1 false (.bx S.length 0) (uN m) = some (put (xB m :: S) id d) := by
  simp only [stD_bx, sget_xB d k h]
  have : stE (some (xB k)) (put (xB k :: S) id d) S.length 1 false 0 (uN m) = some (sset (put (xB k :: S) id d) S.length (xB m)) := rfl
  rw [this, put_push _ _ h, put_push _ _ h]
  simp only [sset, put_len, if_true]

theorem v218 {S : Store} {id : Nat} (d : Array Row) (x : Nat) (hid : id < S.length) : ∃ y : Nat, y < 18446744073709551616 ∧ call dp 218 [.bx S.length 0] (put (xB x :: S) id d) = some (uN y, put (xB y :: S) id d) := by
  obtain ⟨r, S', e, y, rfl, rfl, hy⟩ := f218 (.bx S.length 0) (put (xB x :: S) id d) (fun r S' => ∃ y : Nat, r = uN y ∧ S' = put (xB y :: S) id d ∧ y < 18446744073709551616) (by
    have hnil : nilckD (.bx S.length 0) = some (.bx S.length 0) := rfl
    obtain ⟨y1, e1⟩ := shlX x 13
    obtain ⟨y2, _, e2⟩ := xorX x y1
    obtain ⟨y3, e3⟩ := shrX y2 7
    obtain ⟨y4, _, e4⟩ := xorX y2 y3
    obtain ⟨y5, e5⟩ := shlX y4 17
    obtain ⟨y6, h6, e6⟩ := xorX y4 y5
    simp only [Int.cast_ofNat_Int] at e1 e3 e5
    simp only [s218, hnil, OX_some, ld_xB d _ hid, st_xB d _ _ hid, e1, e2, e3, e4, e5, e6]
    exact ⟨y6, rfl, rfl, h6⟩)
  exact ⟨y, hy, e⟩

theorem v200 {S : Store} {id n : Nat} {d : Array Row} (a b : Nat) (hid : id < S.length) (hn : d.size = n) (hab : a < b) (hb : b ≤ n) (h9 : n ≤ 49) :
    ∃ L d', call dp 200 [arN id n, iN a, iN b, cmpF] (put S id d) = some (.tup [], put (L ++ S) id d') ∧ Go.Sort.PermIn a b d d' := by
  obtain ⟨r, S', e, rfl, L, d', rfl, hp⟩ := f200 (arN id n) (iN a) (iN b) cmpF (put S id d) (fun r S' => r = .tup [] ∧ ∃ L d', S' = put (L ++ S) id d' ∧ Go.Sort.PermIn a b d d') (by
    have m1 : binD .sub .num (iN b) (iN a) = some (iN (b - a)) := sub_N (by omega) (by omega)
    by_cases h8 : 8 ≤ b - a
    case neg =>
      simp only [s200, m1, l8, OX_some, geq_N, h8, decide_false, WB_b, Bool.false_eq_true, if_false]
      exact ⟨trivial, [], d, rfl, Go.Sort.permIn_refl _ _ _⟩
    obtain ⟨m, e217, hm1, hm2⟩ := v217 (b - a) (by omega) (by omega)
    have m2 : binD .quo .num (iN (b - a)) (iN 4) = some (iN ((b - a) / 4)) := quo_N (by omega) (by omega)
    have m3 : binD .mul .num (iN ((b - a) / 4)) (iN 2) = some (iN ((b - a) / 4 * 2)) := mul_N (by omega)
    have m4 : binD .add .num (iN a) (iN ((b - a) / 4 * 2)) = some (iN (a + (b - a) / 4 * 2)) := add_N (by omega)
    have m5 : binD .sub .num (iN (a + (b - a) / 4 * 2)) (iN 1) = some (iN (a + (b - a) / 4 * 2 - 1)) := sub_N (by omega) (by omega)
    have m6 : binD .add .num (iN (a + (b - a) / 4 * 2)) (iN 1) = some (iN (a + (b - a) / 4 * 2 + 1)) := add_N (by omega)
    have hal : Ent.box [.i .u64 0] :: put S id d = put (xB 0 :: S) id d := (put_push d _ hid).symm
    have m7 : binD .sub .num (uN m) (.i .u64 1) = some (uN (m - 1)) := by
      simp only [uN, bin_sub]
      have e : (m : Int) - 1 = ((m - 1 : Nat) : Int) := by omega
      rw [e, wrapUN (by omega)]
    simp only [s200, m1, l1, l2, l4, l8, OX_some, geq_N, h8, decide_true, WB_b, if_true, cv1 (l := b - a) (by omega), al_eq, put_len, hal, st_xB d 0 _ hid, e217, m2, m3, m4, m5]
    let J : Nat → List D → Store → Prop := fun q fr S' => ∃ idx x d' x35, q = a + (b - a) / 4 * 2 + 2 - idx ∧ a + (b - a) / 4 * 2 - 1 ≤ idx ∧ Go.Sort.PermIn a b d d' ∧ S' = put (xB x :: S) id d' ∧
      fr = mkf 67 [(0, arN id n), (1, iN a), (8, iN (b - a)), (9, .bx S.length 0), (10, uN m), (11, iN idx), (35, x35)]
    refine W_loop J ?_ (a + (b - a) / 4 * 2 + 2 - (a + (b - a) / 4 * 2 - 1)) _ _ ⟨a + (b - a) / 4 * 2 - 1, b - a, d, _, rfl, by omega, Go.Sort.permIn_refl _ _ _, rfl, rfl⟩
    rintro q fr S' ⟨idx, x, d', x35, rfl, hlo, hp, rfl, rfl⟩
    rw [← wp_W, e200_0]
    have hn' : d'.size = n := hp.1.trans hn
    by_cases hlt : idx ≤ a + (b - a) / 4 * 2 + 1
    · obtain ⟨y, _, e218⟩ := v218 d' x hid
      obtain ⟨z, hz, eand⟩ := andX y (m - 1) (by omega)
      have hid' : id < (xB y :: S).length := by simp; omega
      have c1 : convD .i64 (uN z) = some (iN z) := cv3 (k := .u64) (l := z) (by omega)
      have m9 : binD .add .num (iN idx) (iN 1) = some (iN (idx + 1)) := add_N (by omega)
      by_cases hz2 : b - a ≤ z
      · have r0 : binD .sub .num (iN z) (iN (b - a)) = some (iN (z - (b - a))) := sub_N (by omega) (by omega)
        have r1 : binD .add .num (iN a) (iN (z - (b - a))) = some (iN (a + (z - (b - a)))) := add_N (by omega)
        have i0 := ia_N (id := id) (n := n) (k := a + (z - (b - a))) (by omega)
        have i1 := ia_N (id := id) (n := n) (k := idx) (by omega)
        have d0 := ld_N (d := d') (k := a + (z - (b - a))) hid' (by omega)
        have d1 := ld_N (d := d') (k := idx) hid' (by omega)
        have s1 := st_N (d := d') (k := idx) d'[a + (z - (b - a))]! hid' (by omega)
        have s2 := st_N (d := d'.setIfInBounds idx d'[a + (z - (b - a))]!) (k := a + (z - (b - a))) d'[idx]! hid' (by simp; omega)
        simp only [s200_0, l1, l2, l4, m2, m3, m4, m6, OX_some, leq_N, hlt, decide_true, WB_b, if_true, e218, m7, eand, c1, geq_N, hz2, jnE, r0, r1, i0, i1, d0, d1, s1, s2, m9, Qseq_normal]
        exact ⟨a + (b - a) / 4 * 2 + 2 - (idx + 1), by omega, idx + 1, y, Go.Sort.swp d' idx (a + (z - (b - a))), _, rfl, by omega, Go.Sort.permIn_trans _ _ _ _ _ hp (Go.Sort.swp_permIn d' a b idx (a + (z - (b - a))) (by omega) (by omega) (by omega) (by omega) (by omega)), rfl, rfl⟩
      · have hz3 : z < b - a := by omega
        have r1 : binD .add .num (iN a) (iN z) = some (iN (a + z)) := add_N (by omega)
        have i0 := ia_N (id := id) (n := n) (k := a + z) (by omega)
        have i1 := ia_N (id := id) (n := n) (k := idx) (by omega)
        have d0 := ld_N (d := d') (k := a + z) hid' (by omega)
        have d1 := ld_N (d := d') (k := idx) hid' (by omega)
        have s1 := st_N (d := d') (k := idx) d'[a + z]! hid' (by omega)
        have s2 := st_N (d := d'.setIfInBounds idx d'[a + z]!) (k := a + z) d'[idx]! hid' (by simp; omega)
        simp only [s200_0, l1, l2, l4, m2, m3, m4, m6, OX_some, leq_N, hlt, decide_true, WB_b, if_true, e218, m7, eand, c1, geq_N, hz2, decide_false, Bool.false_eq_true, if_false, jnE, r1, i0, i1, d0, d1, s1, s2, m9, Qseq_normal]
        exact ⟨a + (b - a) / 4 * 2 + 2 - (idx + 1), by omega, idx + 1, y, Go.Sort.swp d' idx (a + z), _, rfl, by omega, Go.Sort.permIn_trans _ _ _ _ _ hp (Go.Sort.swp_permIn d' a b idx (a + z) (by omega) (by omega) (by omega) (by omega) (by omega)), rfl, rfl⟩
    · simp only [s200_0, l1, l2, l4, m2, m3, m4, m6, OX_some, leq_N, hlt, decide_false, WB_b, Bool.false_eq_true, if_false, Qseq_exit, Qblk_same, FinK_normal, FinK_nil]
      exact ⟨trivial, [_], d', rfl, hp⟩)
  exact ⟨L, d', e, hp⟩

end Go.Proofs.YtjlmeikcfdanmaaGreatDoor.DE.V

namespace Go.Proofs.YtjlmeikcfdanmaaGreatDoor.DE.V
open Go
set_option maxRecDepth 20000

theorem jnI {α : Type} {K : α} {X : α → Prop} (P : α → Prop) (hX : ∀ k, P k → X k) (hK : P K) : jn K X := hX K hK

theorem condI (wb wp : Bool) (hh : Nat) {K : D → Prop} (h : K (.b (wb && wp && decide (hh = 1)))) : OX (gsel (.b wb) true (some (.b wp))) fun x41 => OX (pickD (.b wb) x41 (.b false)) fun x42 => OX (gsel x42 true (some (iN hh))) fun x43 =>
    OX (gsel x42 true (binD .eql .num x43 (iN 1))) fun x44 => OX (pickD x42 x44 (.b false)) fun x45 => K x45 := by
  cases wb <;> cases wp <;> simpa only [gsel_tt, gsel_ft, pick_t, pick_f, OX_some, eql_N, Bool.and_true, Bool.and_false, Bool.true_and, Bool.false_and] using h

theorem condJ {S : Store} {id n : Nat} {d : Array Row} (a pv : Nat) (hid : id < S.length) (hn : d.size = n) (ha : a ≤ n) (hp : pv < n) (h9 : n ≤ 1000000) {K : D → Prop} (h : K (.b (decide (0 < a) && !ltR d[a - 1]! d[pv]!))) :
    OX (binD .gtr .num (iN a) (iN 0)) fun x59 => OX (gsel x59 true (some cmpF)) fun x60 => OX (gsel x59 true (some (arN id n))) fun x61 => OX (gsel x59 true (some (iN a))) fun x62 => OX (gsel x59 true (binD .sub .num x62 (iN 1))) fun x63 =>
    OX (gsel x59 true (iaD 2 x61 x63)) fun x64 => OX (gsel x59 true (ldD (put S id d) 2 true x64)) fun x65 => OX (gsel x59 true (some (arN id n))) fun x66 => OX (gsel x59 true (some (iN pv))) fun x67 => OX (gsel x59 true (iaD 2 x66 x67)) fun x68 =>
    OX (gsel x59 true (ldD (put S id d) 2 true x68)) fun x69 => OX (gsel x59 true (match fnD x60 with | some p => isoCall (call dp) p.1 ([x65, x69] ++ p.2) | none => none)) fun x70 => OX (gsel x59 true (binD .lss .num x70 (iN 0))) fun x71 =>
    OX (gsel x59 true (unD .not x71)) fun x72 => OX (pickD x59 x72 (.b false)) fun x73 => K x73 := by
  by_cases ha0 : 0 < a
  · have i0 := ia_N (id := id) (n := n) (k := a - 1) (by omega)
    have i1 := ia_N (id := id) (n := n) (k := pv) (by omega)
    have d0 := ld_N (d := d) (k := a - 1) hid (by omega)
    have d1 := ld_N (d := d) (k := pv) hid (by omega)
    have c1 := v123 d[a - 1]! d[pv]!
    have m1 : binD .sub .num (iN a) (iN 1) = some (iN (a - 1)) := sub_N (by omega) (by omega)
    simp only [ha0, decide_true, Bool.true_and] at h
    simp only [gtr_N, ha0, decide_true, OX_some, gsel_tt, m1, i0, i1, d0, d1, cmpF, fnD_fn, List.append_nil, c1, lss_c, un_not, pick_t]
    exact h
  · simp only [ha0, decide_false, Bool.false_and] at h
    simp only [gtr_N, ha0, decide_false, OX_some, gsel_ft, gsel_skip, pick_f]
    exact h

theorem below_perm {a b : Nat} {d d' : Array Row} (hb : b ≤ d.size) (h : Go.Sort.Below ltR a b d) (hP : Go.Sort.PermIn a b d d') : Go.Sort.Below ltR a b d' :=
  Go.Sort.Below.permA Go.Sort.permIn_all hb h hP

theorem v174 {id n : Nat} (h9 : n ≤ 49) : ∀ (m : Nat) {S : Store} {d : Array Row} (a b lim : Nat), id < S.length → b - a ≤ m → d.size = n → a ≤ b → b ≤ n → lim ≤ 1000 → Go.Sort.Below ltR a b d →
    ∃ L d', call dp 174 [arN id n, iN a, iN b, iN lim, cmpF] (put S id d) = some (.tup [], put (L ++ S) id d') ∧ Go.Sort.PermIn a b d d' ∧ Go.Sort.SortedIn ltR a b d' := by
  intro m
  induction m using Nat.strongRecOn with
  | _ m ih =>
  intro S d a b lim hid hm hn hab hb hlim hB
  obtain ⟨r, S', e, rfl, L, d', rfl, hp, hs⟩ := f174 (arN id n) (iN a) (iN b) (iN lim) cmpF (put S id d) (fun r S' => r = .tup [] ∧ ∃ L d', S' = put (L ++ S) id d' ∧ Go.Sort.PermIn a b d d' ∧ Go.Sort.SortedIn ltR a b d') (by
    simp only [s174]
    let J : Nat → List D → Store → Prop := fun q fr S' => ∃ L a' b' d' lim' wb wp x12 x13 x80, q = b' - a' ∧ b' - a' ≤ m ∧ a' ≤ b' ∧ b' ≤ n ∧ lim' ≤ 1000 ∧ d'.size = n ∧ Go.Sort.Below ltR a' b' d' ∧
      (∀ R, Go.Sort.PermIn a' b' d' R → Go.Sort.SortedIn ltR a' b' R → Go.Sort.PermIn a b d R ∧ Go.Sort.SortedIn ltR a b R) ∧ S' = put (L ++ S) id d' ∧
      fr = mkf 148 [(0, arN id n), (1, iN a'), (2, iN b'), (3, iN lim'), (4, cmpF), (10, .b wb), (11, .b wp), (12, x12), (13, x13), (80, x80)]
    refine W_loop J ?_ (b - a) _ _ ⟨[], a, b, d, lim, true, true, _, _, _, rfl, hm, hab, hb, hlim, hn, hB, fun R h1 h2 => ⟨h1, h2⟩, rfl, rfl⟩
    rintro q fr S' ⟨L, a', b', d', lim', wb, wp, x12, x13, x80, rfl, hm', hab', hb', hlim', hn', hB', hcl, rfl, rfl⟩
    rw [← wp_W, e174_0]
    have hidL : ∀ L : List Ent, id < (L ++ S).length := fun L => by simp; omega
    have m1 : binD .sub .num (iN b') (iN a') = some (iN (b' - a')) := sub_N (by omega) (by omega)
    by_cases h12 : b' - a' ≤ 12
    · have e198 := v198 (S := L ++ S) (d := d') a' b' (hidL L) hn' hab' hb' (by omega)
      obtain ⟨hp, hs⟩ := Go.Sort.insertionSort_holds swo d' a' b' hab' (by omega)
      simp only [s174_0, m1, l12, OX_some, leq_N, h12, decide_true, WB_b, if_true, e198, Qseq_ret, Qblk_ret, FinK_nil]
      exact ⟨trivial, L, _, rfl, hcl _ hp hs⟩
    by_cases h0 : lim' = 0
    · have e199 := v199 (S := L ++ S) (d := d') a' b' (hidL L) hn' (by omega) hb' (by omega)
      obtain ⟨hp, hs⟩ := Go.Sort.heapSort_holds swo d' a' b' hab' (by omega)
      simp only [s174_0, m1, l0, l12, OX_some, leq_N, h12, decide_false, WB_b, Bool.false_eq_true, if_false, eql_N, h0, decide_true, if_true, e199, Qseq_ret, Qblk_ret, FinK_nil]
      exact ⟨trivial, L, _, rfl, hcl _ hp hs⟩
    simp only [s174_0, m1, l0, l1, l2, l8, l12, OX_some, leq_N, h12, decide_false, WB_b, Bool.false_eq_true, if_false, eql_N, h0, un_not]
    refine jnI (fun k => ∀ L1 d1 lim1 x x', lim1 ≤ 1000 → Go.Sort.PermIn a' b' d' d1 → k (arN id n) (iN a') (iN b') (iN lim1) cmpF (.b wb) (.b wp) (iN (b' - a')) x x' x80 (put (L1 ++ S) id d1)) ?_ ?_
    · intro k hk
      cases wb with
      | true =>
        simp only [Bool.not_true, Bool.false_eq_true, if_false]
        exact hk L d' lim' _ _ hlim' (Go.Sort.permIn_refl _ _ _)
      | false =>
        obtain ⟨L1, d1, e200, hp⟩ := v200 (S := L ++ S) (d := d') a' b' (hidL L) hn' (by omega) hb' h9
        have m2 : binD .sub .num (iN lim') (iN 1) = some (iN (lim' - 1)) := sub_N (by omega) (by omega)
        simp only [Bool.not_false, if_true, e200, OX_some, m2]
        rw [← List.append_assoc]
        exact hk (L1 ++ L) d1 (lim' - 1) _ _ (by omega) hp
    intro L1 d1 lim1 x y hlim1 hp1
    have hn1 : d1.size = n := hp1.1.trans hn'
    obtain ⟨pv, h, k', e201, hpv1, hpv2⟩ := v201 (S := L1 ++ S) (d := d1) a' b' (hidL L1) hn1 (by omega) hb' h9
    have x0 : ∀ i j : Nat, extD (.tup [iN i, iN j]) 0 = some (iN i) := fun _ _ => rfl
    have x1 : ∀ i j : Nat, extD (.tup [iN i, iN j]) 1 = some (iN j) := fun _ _ => rfl
    have xb0 : ∀ (i : Nat) (j : Bool), extD (.tup [iN i, .b j]) 0 = some (iN i) := fun _ _ => rfl
    have xb1 : ∀ (i : Nat) (j : Bool), extD (.tup [iN i, .b j]) 1 = some (.b j) := fun _ _ => rfl
    simp only [e201, OX_some, x0, x1, eql_N, WB_b]
    refine jnI (fun k => ∀ L2 d2 pv hh x x', Go.Sort.PermIn a' b' d' d2 → a' ≤ pv → pv < b' → k (arN id n) (iN a') (iN b') (iN lim1) cmpF (.b wb) (.b wp) (iN (b' - a')) (iN pv) (iN hh) x x' (put (L2 ++ S) id d2)) ?_ ?_
    · intro k hk
      by_cases h2 : h = 2
      · have e202 := v202 (S := swB k' :: (L1 ++ S)) (d := d1) a' b' (hidL (swB k' :: L1)) hn1 (by omega) hb' (by omega)
        have q1 : binD .sub .num (iN b') (iN 1) = some (iN (b' - 1)) := sub_N (by omega) (by omega)
        have q2 : binD .sub .num (iN pv) (iN a') = some (iN (pv - a')) := sub_N (by omega) (by omega)
        have q3 : binD .sub .num (iN (b' - 1)) (iN (pv - a')) = some (iN (b' - 1 - (pv - a'))) := sub_N (by omega) (by omega)
        simp only [h2, decide_true, if_true, e202, OX_some, q1, q2, q3]
        exact hk (swB k' :: L1) _ (b' - 1 - (pv - a')) 1 _ _ (Go.Sort.permIn_trans _ _ _ _ _ hp1 (Go.Sort.reverseRange_holds d1 a' b' hab' (by omega))) (by omega) (by omega)
      · simp only [h2, decide_false, Bool.false_eq_true, if_false]
        exact hk (swB k' :: L1) d1 pv h _ _ hp1 hpv1 hpv2
    clear e201 hpv1 hpv2
    intro L2 d2 pv hh x y hp2 hpv1 hpv2
    have hn2 : d2.size = n := hp2.1.trans hn'
    have hB2 : Go.Sort.Below ltR a' b' d2 := below_perm (by omega) hB' hp2
    have e203 := v203 (S := L2 ++ S) (d := d2) a' b' (hidL L2) hn2 (by omega) hb' h9
    obtain ⟨pp, ps⟩ := Go.Sort.partialInsertionSort_holds swo d2 a' b' (by omega) (by omega) hB2
    rw [pis (by omega)] at e203 pp ps
    simp only at e203 pp ps
    generalize decide (Go.Sort.scanSorted ltR d2 b' (a' + 1) = b') = c at *
    refine condI wb wp hh ?_
    refine jnI (fun k => ∀ x x', k (arN id n) (iN a') (iN b') (iN lim1) cmpF (.b wb) (.b wp) (iN (b' - a')) (iN pv) x x' (put (L2 ++ S) id d2)) ?_ ?_
    · intro k hk
      simp only [WB_b]
      split
      · simp only [e203, OX_some, WB_b]
        split
        · rename_i hc
          simp only [Qseq_ret, Qblk_ret, FinK_nil]
          exact ⟨trivial, L2, d2, rfl, hcl _ hp2 (ps hc)⟩
        · exact hk _ _
      · exact hk _ _
    intro x y
    refine condJ (S := L2 ++ S) (d := d2) a' pv (hidL L2) hn2 (by omega) (by omega) (by omega) ?_
    simp only [WB_b]
    split
    · rename_i hc
      simp only [Bool.and_eq_true, decide_eq_true_eq, Bool.not_eq_true'] at hc
      obtain ⟨ha0, hnl⟩ := hc
      have e204 := v204 (S := L2 ++ S) (d := d2) a' b' pv (hidL L2) hn2 hpv1 hpv2 hb' (by omega)
      obtain ⟨mid, d4, hP⟩ : ∃ mid d4, Go.Sort.partitionEqual ltR d2 a' b' pv = (mid, d4) := ⟨_, _, rfl⟩
      obtain ⟨r1, r2, r3, r4, r5⟩ := Go.Sort.round_eq swo (Go.Sort.partitionEqual_holds ltR) ha0 hpv1 hpv2 (by omega) hB2 hnl hP
      rw [hP] at e204
      simp only at e204
      simp only [e204, OX_some, Qseq_normal]
      exact ⟨b' - mid, by omega, L2, mid, b', d4, lim1, wb, wp, _, _, _, rfl, by omega, r2, hb', hlim1, r3.trans hn2, r4, fun R h1 h2 => (r5 R h1 h2).elim fun h3 h4 => hcl _ (Go.Sort.permIn_trans _ _ _ _ _ hp2 h3) h4, rfl, rfl⟩
    have e205 := v205 (S := L2 ++ S) (d := d2) a' b' pv (hidL L2) hn2 hpv1 hpv2 hb' (by omega)
    obtain ⟨mid, ap, d4, hP⟩ : ∃ mid ap d4, Go.Sort.partition ltR d2 a' b' pv = (mid, ap, d4) := ⟨_, _, _, rfl⟩
    obtain ⟨r1, r2, r3, r4, r5, r6, r7⟩ := Go.Sort.round_part swo (Go.Sort.partition_holds ltR) hpv1 hpv2 (by omega) hB2 hP
    rw [hP] at e205
    simp only at e205
    have q1 : binD .sub .num (iN mid) (iN a') = some (iN (mid - a')) := sub_N (by omega) (by omega)
    have q2 : binD .sub .num (iN b') (iN mid) = some (iN (b' - mid)) := sub_N (by omega) (by omega)
    have q3 : binD .quo .num (iN (b' - a')) (iN 8) = some (iN ((b' - a') / 8)) := quo_N (by omega) (by omega)
    have q4 : binD .add .num (iN mid) (iN 1) = some (iN (mid + 1)) := add_N (by omega)
    simp only [e205, OX_some, xb0, xb1, q1, q2, q3, q4, lss_N, jnE, WB_b, geq_N]
    split
    · obtain ⟨L4, d5, e5, hp5, hs5⟩ := ih (mid - a') (by omega) (S := L2 ++ S) (d := d4) a' mid lim1 (hidL L2) (Nat.le_refl _) (r3.trans hn2) r1 (by omega) hlim1 r4
      obtain ⟨t1, t2⟩ := r6 d5 hp5 hs5
      simp only [e5, OX_some, Qseq_normal]
      rw [← List.append_assoc]
      exact ⟨b' - (mid + 1), by omega, L4 ++ L2, mid + 1, b', d5, lim1, _, _, _, _, _, rfl, by omega, r2, hb', hlim1, hp5.1.trans (r3.trans hn2), t1, fun R h1 h2 => (t2 R h1 h2).elim fun h3 h4 => hcl _ (Go.Sort.permIn_trans _ _ _ _ _ hp2 h3) h4, rfl, rfl⟩
    · obtain ⟨L4, d5, e5, hp5, hs5⟩ := ih (b' - (mid + 1)) (by omega) (S := L2 ++ S) (d := d4) (mid + 1) b' lim1 (hidL L2) (Nat.le_refl _) (r3.trans hn2) r2 hb' hlim1 r5
      obtain ⟨t1, t2⟩ := r7 d5 hp5 hs5
      simp only [e5, OX_some, Qseq_normal]
      rw [← List.append_assoc]
      exact ⟨mid - a', by omega, L4 ++ L2, a', mid, d5, lim1, _, _, _, _, _, rfl, by omega, r1, by omega, hlim1, hp5.1.trans (r3.trans hn2), t1, fun R h1 h2 => (t2 R h1 h2).elim fun h3 h4 => hcl _ (Go.Sort.permIn_trans _ _ _ _ _ hp2 h3) h4, rfl, rfl⟩)
  exact ⟨L, d', e, hp, hs⟩

end Go.Proofs.YtjlmeikcfdanmaaGreatDoor.DE.V

namespace Go.Proofs.YtjlmeikcfdanmaaGreatDoor.DE.V
open Go
set_option maxRecDepth 20000

/-- Each value once, of values in order: what stands before place m. -/
def ddN (g : Nat → Row) : Nat → List Row
  | 0 => []
  | m + 1 => if 0 < m ∧ g m = g (m - 1) then ddN g m else ddN g m ++ [g m]

theorem ddN_pos (g : Nat → Row) : ∀ m, 0 < m → 0 < (ddN g m).length
  | 0, h => by omega
  | m + 1, _ => by
    simp only [ddN]
    split
    · rename_i h; exact ddN_pos g m h.1
    · simp
theorem ddN_mem (g : Nat → Row) (r : Row) : ∀ m, r ∈ ddN g m ↔ ∃ i, i < m ∧ g i = r
  | 0 => by simp [ddN]
  | m + 1 => by
    have ih := ddN_mem g r m
    simp only [ddN]
    split
    · rename_i h
      rw [ih]
      constructor
      · rintro ⟨i, h1, h2⟩; exact ⟨i, by omega, h2⟩
      · rintro ⟨i, h1, h2⟩
        by_cases e : i = m
        · subst e; exact ⟨i - 1, by omega, by rw [← h.2, h2]⟩
        · exact ⟨i, by omega, h2⟩
    · rw [List.mem_append, ih, List.mem_singleton]
      constructor
      · rintro (⟨i, h1, h2⟩ | h)
        · exact ⟨i, by omega, h2⟩
        · exact ⟨m, by omega, h.symm⟩
      · rintro ⟨i, h1, h2⟩
        by_cases e : i = m
        · subst e; exact .inr h2.symm
        · exact .inl ⟨i, by omega, h2⟩

/-- Strictly ascending. -/
def Asc (l : List Row) : Prop := l.Pairwise fun x y => ltR x y = true

theorem ltR_total {x y : Row} (h1 : ltR x y = false) (h2 : ltR y x = false) : x = y := by
  rw [ltR_false] at h1 h2
  exact Prod.ext (by omega) (by omega)

theorem ddN_asc (g : Nat → Row) (n : Nat) (hs : ∀ i j, i < j → j < n → ltR (g j) (g i) = false) : ∀ m, m ≤ n → Asc (ddN g m)
  | 0, _ => List.Pairwise.nil
  | m + 1, hm => by
    have ih := ddN_asc g n hs m (by omega)
    simp only [ddN]
    split
    · exact ih
    · rename_i h
      refine List.pairwise_append.2 ⟨ih, List.pairwise_singleton _ _, ?_⟩
      intro x hx y hy
      rw [List.mem_singleton] at hy
      subst hy
      obtain ⟨i, hi, rfl⟩ := (ddN_mem g x m).1 hx
      cases hc : ltR (g i) (g m) with
      | true => rfl
      | false =>
        exfalso
        have e : g i = g m := ltR_total hc (hs i m hi (by omega))
        apply h
        refine ⟨by omega, ?_⟩
        by_cases hi' : i = m - 1
        · rw [← hi', e]
        · have a1 := hs i (m - 1) (by omega) (by omega)
          have a2 := hs (m - 1) m (by omega) (by omega)
          rw [e] at a1
          exact ltR_total a2 a1

/-- A strictly ascending list is told by its members. -/
theorem Asc_unique : ∀ {l m : List Row}, Asc l → Asc m → (∀ r, r ∈ l ↔ r ∈ m) → l = m
  | [], [], _, _, _ => rfl
  | [], y :: m, _, _, h => by have := (h y).2 (by simp); simp at this
  | x :: l, [], _, _, h => by have := (h x).1 (by simp); simp at this
  | x :: l, y :: m, hl, hm, h => by
    obtain ⟨hx, hl'⟩ := List.pairwise_cons.1 hl
    obtain ⟨hy, hm'⟩ := List.pairwise_cons.1 hm
    have irr : ∀ {a b : Row}, ltR a b = true → ltR b a = true → False := fun p q => by
      have := swo.trans _ _ _ p q; rw [swo.irrefl] at this; cases this
    have e : x = y := by
      rcases List.mem_cons.1 ((h x).1 (by simp)) with e | e
      · exact e
      · rcases List.mem_cons.1 ((h y).2 (by simp)) with e' | e'
        · exact e'.symm
        · exact (irr (hy x e) (hx y e')).elim
    subst e
    congr 1
    refine Asc_unique hl' hm' fun r => ?_
    constructor
    · intro hr
      rcases List.mem_cons.1 ((h r).1 (List.mem_cons_of_mem _ hr)) with e | e
      · subst e; exact (irr (hx r hr) (hx r hr)).elim
      · exact e
    · intro hr
      rcases List.mem_cons.1 ((h r).2 (List.mem_cons_of_mem _ hr)) with e | e
      · subst e; exact (irr (hy r hr) (hy r hr)).elim
      · exact e

theorem v122 {S : Store} {id n : Nat} {d : Array Row} (hid : id < S.length) (hn : d.size = n) (h9 : n ≤ 49) :
    ∃ L d', call dp 122 [arN id n, cmpF] (put S id d) = some (.tup [], put (L ++ S) id d') ∧ Go.Sort.PermIn 0 n d d' ∧ Go.Sort.SortedIn ltR 0 n d' := by
  obtain ⟨r, S', e, rfl, L, d', rfl, hp, hs⟩ := f122 (arN id n) cmpF (put S id d) (fun r S' => r = .tup [] ∧ ∃ L d', S' = put (L ++ S) id d' ∧ Go.Sort.PermIn 0 n d d' ∧ Go.Sort.SortedIn ltR 0 n d') (by
    obtain ⟨v, e175, hv, _⟩ := v175 n (by omega)
    obtain ⟨L, d', e174, hp, hs⟩ := v174 (id := id) (n := n) h9 n (S := S) (d := d) 0 n v hid (by omega) hn (by omega) (by omega) (by omega) (.inl rfl)
    have hl : lenD false (arN id n) = some (iN n) := rfl
    simp only [s122, hl, OX_some, cv1 (l := n) (by omega), e175, l0, e174]
    exact ⟨trivial, L, d', rfl, hp, hs⟩)
  exact ⟨L, d', e, hp, hs⟩

/-! Compact. -/
theorem eq_row (r s : Row) : binD .eql (.agg [.i, .i]) (.agg (eRow r)) (.agg (eRow s)) = some (.b (decide (r = s))) := bin_eql_row r s

theorem splice_take : ∀ (l cs : List D) (o m : Nat), m ≤ o → (splice cs o l).take m = cs.take m
  | [], _, _, _, _ => rfl
  | x :: l, cs, o, m, h => by
    have ft : ∀ (cs : List D) (o m : Nat), m ≤ o → (fset cs o x).take m = cs.take m := by
      intro cs
      induction cs with
      | nil => intros; rfl
      | cons c cs ih =>
        intro o m h
        cases o with
        | zero => have : m = 0 := by omega
                  subst this; rfl
        | succ o =>
          cases m with
          | zero => rfl
          | succ m => simp only [fset, List.take_succ_cons, ih o m (by omega)]
    rw [splice, splice_take l _ (o + 1) m (by omega), ft cs o m h]

theorem chunks_take : ∀ (k : Nat) (cs : List D) (l : List Row), l.length = k → cs.take (2 * k) = flatL l → chunks 2 k cs = l.map eRow
  | 0, _, l, h, _ => by have := List.length_eq_zero_iff.1 h; subst this; rfl
  | k + 1, cs, [], h, _ => by simp at h
  | k + 1, cs, x :: l, h, e => by
    rw [flatL_cons] at e
    match cs, e with
    | [], e => simp at e
    | [a], e => rw [show 2 * (k + 1) = 2 * k + 1 + 1 by omega] at e; simp at e
    | a :: b :: cs, e =>
      rw [show 2 * (k + 1) = 2 * k + 1 + 1 by omega] at e
      simp only [List.take_succ_cons, List.cons.injEq] at e
      obtain ⟨rfl, rfl, e⟩ := e
      have ih := chunks_take k cs l (by simpa using h) e
      simp only [chunks, List.take_succ_cons, List.take_zero, List.drop_succ_cons, List.drop_zero, ih, List.map_cons]
      rfl

theorem flat_take (d : Array Row) (l : List Row) (h : l.length ≤ d.size) (hg : ∀ j, j < l.length → l[j]? = some d[j]!) : (flat d).take (2 * l.length) = flatL l := by
  have e : d.toList.take l.length = l := by
    apply List.ext_getElem?
    intro j
    by_cases hj : j < l.length
    · rw [List.getElem?_take_of_lt hj, getE (by omega), hg j hj]
    · rw [List.getElem?_take_eq_none (by omega), List.getElem?_eq_none (by omega)]
  have ft : ∀ (k : Nat) (l : List Row), k ≤ l.length → (flatL l).take (2 * k) = flatL (l.take k) := by
    intro k
    induction k with
    | zero => intros; rfl
    | succ k ih =>
      intro l h
      cases l with
      | nil => simp at h
      | cons x l =>
        rw [show 2 * (k + 1) = 2 * k + 1 + 1 by omega, flatL_cons, List.take_succ_cons, List.take_succ_cons, List.take_succ_cons, flatL_cons, ih l (by simpa using h)]
  rw [flat, ft _ _ (by simpa using h), e]

theorem set_get (d : Array Row) (c i : Nat) (v : Row) (hc : c < d.size) : (d.setIfInBounds c v)[i]! = if i = c then v else d[i]! := by
  by_cases h : i = c
  · subst h
    rw [if_pos rfl, getElem!_pos _ _ (by simpa using hc)]
    simp
  · rw [if_neg h]
    simp only [getElem!_def, Array.getElem?_setIfInBounds]
    rw [if_neg (fun e => h e.symm)]

theorem ia_2 {id k m j : Nat} (h : j < m) : iaD 2 (.ar 2 id (k * 2) m) (iN j) = some (.bx id ((k + j) * 2)) := by
  simp only [iN, iaD]
  rw [if_pos ⟨by omega, by omega, trivial⟩]
  simp; omega
theorem neq_row (r s : Row) : binD .neq (.agg [.i, .i]) (.agg (eRow r)) (.agg (eRow s)) = some (.b (!decide (r = s))) := bin_neq_row r s

theorem v124 {S : Store} {id n : Nat} {d : Array Row} (hid : id < S.length) (hn : d.size = n) (h0 : 0 < n) (h9 : n ≤ 1000000) :
    ∃ k cs S', call dp 124 [arN id n] (put S id d) = some (.ar 2 id 0 k, S') ∧ sget S' id = some (.box cs) ∧ k = (ddN (fun i => d[i]!) n).length ∧ cs.take (2 * k) = flatL (ddN (fun i => d[i]!) n) := by
  let g : Nat → Row := fun i => d[i]!
  have hg : ∀ i, d[i]! = g i := fun _ => rfl
  obtain ⟨r, S', e, k, cs, rfl, h1, h2, h3⟩ := f124 (arN id n) (put S id d) (fun r S' => ∃ k cs, r = .ar 2 id 0 k ∧ sget S' id = some (.box cs) ∧ k = (ddN g n).length ∧ cs.take (2 * k) = flatL (ddN g n)) (by
    have hl : lenD false (arN id n) = some (iN n) := rfl
    have whole : ∀ S', S' = put S id d → ddN g n = (List.range n).map g → ∃ k cs, arN id n = .ar 2 id 0 k ∧ sget S' id = some (.box cs) ∧ k = (ddN g n).length ∧ cs.take (2 * k) = flatL (ddN g n) := by
      rintro _ rfl hr
      have hlen : (ddN g n).length = n := by rw [hr]; simp
      refine ⟨n, flat d, rfl, sget_put d hid, hlen.symm, ?_⟩
      have := flat_take d (ddN g n) (by omega) (fun j hj => by rw [hr] at hj ⊢; simp at hj; simp [hj]; rfl)
      rw [hlen] at this
      exact this
    by_cases h2 : n < 2
    · simp only [s124, hl, l2, OX_some, lss_N, h2, decide_true, WB_b, if_true]
      have : n = 1 := by omega
      exact whole _ rfl (by subst this; rfl)
    simp only [s124, hl, l1, l2, OX_some, lss_N, h2, decide_false, WB_b, Bool.false_eq_true, if_false]
    let J : Nat → List D → Store → Prop := fun q fr S' => ∃ k x2 x4 x5 x13 x25 x32, k + q = n ∧ 1 ≤ k ∧ ddN g k = (List.range k).map g ∧ S' = put S id d ∧
      fr = mkf 61 [(0, arN id n), (2, x2), (3, iN k), (4, x4), (5, x5), (13, x13), (25, x25), (32, x32)]
    refine W_loop J ?_ (n - 1) _ _ ⟨1, _, _, _, _, _, _, by omega, by omega, rfl, rfl, rfl⟩
    rintro q fr S' ⟨k, x2, x4, x5, x13, x25, x32, hk, hk1, hr, rfl, rfl⟩
    rw [← wp_W, e124_1]
    by_cases hlt : k < n
    case neg =>
      have : k = n := by omega
      subst this
      simp only [s124_1, hl, OX_some, lss_N, hlt, decide_false, WB_b, Bool.false_eq_true, if_false, Qseq_exit, Qblk_same, QS_normal, e124_r2, s124_r2, FinK_ret1]
      exact whole _ rfl hr
    have m1 : binD .sub .num (iN k) (iN 1) = some (iN (k - 1)) := sub_N (by omega) (by omega)
    have m2 : binD .add .num (iN k) (iN 1) = some (iN (k + 1)) := add_N (by omega)
    have i0 := ia_N (id := id) (n := n) (k := k) (by omega)
    have i1 := ia_N (id := id) (n := n) (k := k - 1) (by omega)
    have d0 := ld_N (d := d) (k := k) hid (by omega)
    have d1 := ld_N (d := d) (k := k - 1) hid (by omega)
    rw [hg] at d0 d1
    by_cases hdup : g k = g (k - 1)
    case neg =>
      simp only [s124_1, hl, l1, OX_some, lss_N, hlt, decide_true, WB_b, if_true, i0, i1, d0, d1, m1, eq_row, hdup, decide_false, Bool.false_eq_true, if_false, s124_r1, m2, Qblk_normal, Qseq_normal]
      refine ⟨q - 1, by omega, k + 1, _, _, _, _, _, _, by omega, by omega, ?_, rfl, rfl⟩
      rw [ddN, if_neg (by simp [hdup]), hr, List.range_succ]
      simp
    have hsl : ∀ k, k < n → slcD 2 (arN id n) (some (iN k)) none = some (.ar 2 id (k * 2) (n - k)) := by
      intro k hk
      have hk' : (k : Int) ≤ n := by omega
      have : ¬ n = k := by omega
      simp [slcD, arN, bounds, iN, hk', this]
    simp only [s124_1, hl, l1, OX_some, lss_N, hlt, decide_true, WB_b, if_true, i0, i1, d0, d1, m1, eq_row, hdup, hsl k hlt]
    let J2 : Nat → List D → Store → Prop := fun q fr S' => ∃ c j d' x2 x13 x25 x32, j + q = n - k ∧ 1 ≤ j ∧ c = (ddN g (k + j)).length ∧ c ≤ k + j - 1 ∧ d'.size = n ∧ (∀ i, i < c → (ddN g (k + j))[i]? = some d'[i]!) ∧ (∀ i, c ≤ i → d'[i]! = g i) ∧ S' = put S id d' ∧
      fr = mkf 61 [(0, arN id n), (2, x2), (3, iN c), (4, .ar 2 id (k * 2) (n - k)), (5, iN j), (13, x13), (25, x25), (32, x32)]
    have hd1 : ddN g (k + 1) = ddN g k := by rw [ddN, if_pos ⟨by omega, hdup⟩]
    have hlk : (ddN g k).length = k := by rw [hr]; simp
    refine W_loop J2 ?_ (n - k - 1) _ _ ⟨k, 1, d, _, _, _, _, by omega, by omega, by rw [hd1, hlk], by omega, hn, ?_, fun i _ => rfl, rfl, rfl⟩
    · rintro q fr S' ⟨c, j, d', x2, x13, x25, x32, hj, hj1, hc, hcm, hn', hpre, hsuf, rfl, rfl⟩
      rw [← wp_W, e124_0]
      have hl2 : lenD false (.ar 2 id (k * 2) (n - k)) = some (iN (n - k)) := rfl
      have hcp : 0 < c := by rw [hc]; exact ddN_pos g _ (by omega)
      by_cases hlt2 : j < n - k
      · have a0 := ia_2 (id := id) (k := k) hlt2
        have a1 := ia_2 (id := id) (k := k) (m := n - k) (j := j - 1) (by omega)
        have b0 := ld_N (d := d') (k := k + j) hid (by omega)
        have b1 := ld_N (d := d') (k := k + (j - 1)) hid (by omega)
        rw [hsuf (k + j) (by omega)] at b0
        rw [hsuf (k + (j - 1)) (by omega), show k + (j - 1) = k + j - 1 by omega] at b1
        rw [show k + (j - 1) = k + j - 1 by omega] at a1
        have p1 : binD .sub .num (iN j) (iN 1) = some (iN (j - 1)) := sub_N (by omega) (by omega)
        have p2 : binD .add .num (iN j) (iN 1) = some (iN (j + 1)) := add_N (by omega)
        have p3 : binD .add .num (iN c) (iN 1) = some (iN (c + 1)) := add_N (by omega)
        by_cases hd : g (k + j) = g (k + j - 1)
        · simp only [s124_0, hl2, l1, OX_some, lss_N, hlt2, decide_true, WB_b, if_true, a0, a1, b0, b1, p1, neq_row, hd, Bool.not_true, Bool.false_eq_true, if_false, jnE, p2, Qseq_normal]
          have he : ddN g (k + (j + 1)) = ddN g (k + j) := by rw [← Nat.add_assoc, ddN, if_pos ⟨by omega, hd⟩]
          exact ⟨q - 1, by omega, c, j + 1, d', _, _, _, _, by omega, by omega, by rw [he, hc], by omega, hn', fun i hi => by rw [he]; exact hpre i hi, hsuf, rfl, rfl⟩
        · have a2 := ia_N (id := id) (n := n) (k := c) (by omega)
          have s1 := st_N (d := d') (k := c) (g (k + j)) hid (by omega)
          simp only [s124_0, hl2, l1, OX_some, lss_N, hlt2, decide_true, WB_b, if_true, a0, a1, b0, b1, p1, neq_row, hd, decide_false, Bool.not_false, a2, s1, p3, jnE, p2, Qseq_normal]
          have he : ddN g (k + (j + 1)) = ddN g (k + j) ++ [g (k + j)] := by rw [← Nat.add_assoc, ddN, if_neg (fun h => hd h.2)]
          refine ⟨q - 1, by omega, c + 1, j + 1, d'.setIfInBounds c (g (k + j)), _, _, _, _, by omega, by omega, by rw [he, hc]; simp, by omega, by simp [hn'], ?_, ?_, rfl, rfl⟩
          · intro i hi
            rw [he, set_get _ _ _ _ (by omega)]
            by_cases e : i = c
            · rw [if_pos e, e, hc]; simp
            · rw [if_neg e, List.getElem?_append_left (by omega)]; exact hpre i (by omega)
          · intro i hi
            rw [set_get _ _ _ _ (by omega), if_neg (by omega)]
            exact hsuf i (by omega)
      · have hjn : k + j = n := by omega
        rw [hjn] at hc hpre
        have hcl : clrD 2 [iN 0, iN 0] (put S id d') (.ar 2 id (c * 2) (n - c)) = some (sset (put S id d') id (.box (splice (flat d') (c * 2) (List.replicate (n - c) [iN 0, iN 0]).flatten))) := by
          have hfl : (flat d').length = 2 * n := by rw [flat, flatL_len]; simp [hn']
          simp only [clrD, sget_put d' hid]
          rw [if_pos ⟨trivial, rfl⟩, if_pos (by omega)]
        have hs2 : slcD 2 (arN id n) none (some (iN c)) = some (.ar 2 id 0 c) := by
          have hk' : (c : Int) ≤ n := by omega
          have : ¬ c = 0 := by omega
          simp [slcD, arN, bounds, iN, hk', this]
        simp only [s124_0, hl2, OX_some, lss_N, hlt2, decide_false, WB_b, Bool.false_eq_true, if_false, Qseq_exit, Qblk_same, QS_normal, e124_r0, s124_r0, l0, hsl c (by omega), hcl, hs2, Qblk_ret, QS_ret, Qseq_ret, FinK_ret1]
        refine ⟨c, _, rfl, sget_sset _ (by rw [put_len]; exact hid), hc, ?_⟩
        rw [splice_take _ _ _ _ (by omega)]
        have := flat_take d' (ddN g n) (by omega) (fun j hj => hpre j (by omega))
        rw [← hc] at this
        exact this
    · intro i hi
      rw [hd1, hr]
      simp [hi]
      rfl)
  exact ⟨k, cs, S', e, h1, h2, h3⟩

end Go.Proofs.YtjlmeikcfdanmaaGreatDoor.DE.V

namespace Go.Proofs.YtjlmeikcfdanmaaGreatDoor.DE.V
open Go
set_option maxRecDepth 20000

theorem v198e (x : D) (S : Store) : call dp 198 [x, iN 0, iN 0, cmpF] S = some (.tup [], S) := by
  obtain ⟨r, S', e, rfl, rfl⟩ := f198 x (iN 0) (iN 0) cmpF S (fun r S' => r = .tup [] ∧ S' = S) (by
    have m1 : binD .add .num (iN 0) (iN 1) = some (iN (0 + 1)) := add_N (by omega)
    simp only [s198, l1, m1, OX_some]
    apply W_step
    rw [← wp_W, e198_1]
    simp only [s198_1, OX_some, lss_N, show (0 + 1 < 0) = False by simp, decide_false, WB_b, Bool.false_eq_true, if_false, Qseq_exit, Qblk_same, FinK_normal, FinK_nil]
    exact ⟨trivial, trivial⟩)
  exact e

theorem v122e (nl : Bool) (o : Own) (S : Store) : call dp 122 [.sl 2 nl [] o, cmpF] S = some (.tup [], S) := by
  obtain ⟨v, e175, _, _⟩ := v175 0 (by omega)
  have e174 : call dp 174 [.sl 2 nl [] o, iN 0, iN 0, iN v, cmpF] S = some (.tup [], S) := by
    obtain ⟨r, S', e, rfl, rfl⟩ := f174 (.sl 2 nl [] o) (iN 0) (iN 0) (iN v) cmpF S (fun r S' => r = .tup [] ∧ S' = S) (by
      have m1 : binD .sub .num (iN 0) (iN 0) = some (iN (0 - 0)) := sub_N (by omega) (by omega)
      simp only [s174]
      apply W_step
      rw [← wp_W, e174_0]
      simp only [s174_0, m1, l12, OX_some, leq_N, show (0 - 0 ≤ 12) = True by simp, decide_true, WB_b, if_true, v198e, Qseq_ret, Qblk_ret, FinK_nil]
      exact ⟨trivial, trivial⟩)
    exact e
  obtain ⟨r, S', e, rfl, rfl⟩ := f122 (.sl 2 nl [] o) cmpF S (fun r S' => r = .tup [] ∧ S' = S) (by
    have hl : lenD false (.sl 2 nl [] o) = some (iN 0) := rfl
    simp only [s122, hl, OX_some, cv1 (l := 0) (by omega), e175, l0, e174]
    exact ⟨trivial, trivial⟩)
  exact e

theorem v81 (nl : Bool) (l : List Row) (hn : nl = true → l = []) (h : l.length ≤ 49) :
    ∃ s nl', isoCall (call dp) 81 [eRows nl l] = some (eRows nl' s) ∧ Asc s ∧ (∀ r, r ∈ s ↔ r ∈ l) ∧ (nl' = true → s = []) := by
  let P : D → Prop := fun r => ∃ s nl', r = eRows nl' s ∧ Asc s ∧ (∀ r, r ∈ s ↔ r ∈ l) ∧ (nl' = true → s = [])
  suffices hh : ∃ r, isoCall (call dp) 81 [eRows nl l] = some r ∧ P r by
    obtain ⟨r, e, s, nl', rfl, h1, h2⟩ := hh
    exact ⟨s, nl', e, h1, h2⟩
  apply j81 _ _ (by simp [noRefL]) (by rintro r ⟨s, nl', rfl, _⟩; simp)
  rw [strip_eRows]
  by_cases hl : l = []
  · subst hl
    have key : s81 (call dp) (eRows nl []) [] (fun d _ => P (stripT d)) ↔ OX (call dp 1049 [eRows nl []] []) fun p2 => OX (call dp 122 [p2.1, cmpF] p2.2) fun p4 => OX (call dp 124 [p2.1] p4.2) fun p6 => OX (fzD p6.1 p6.2) fun p7 => P (stripT p7.1) := Iff.rfl
    rw [key]
    obtain ⟨o, e1049⟩ : ∃ o, call dp 1049 [eRows nl []] [] = some (.sl 2 nl [] o, []) := by
      cases nl with
      | true =>
        obtain ⟨r, S', e, rfl, rfl⟩ := f1049 (eRows true []) [] (fun r S' => r = .sl 2 true [] .ro ∧ S' = []) (by simp [s1049])
        exact ⟨_, e⟩
      | false =>
        obtain ⟨r, S', e, rfl, rfl⟩ := f1049 (eRows false []) [] (fun r S' => r = .sl 2 false [] .cap0 ∧ S' = []) (by
          have hb : binD .eql .sl (.sl 2 false [] .ro) (.sl 2 true [] .ro) = some (.b false) := rfl
          simp [s1049, appD, eRows, maxLenD, hb])
        exact ⟨_, e⟩
    have e124 : call dp 124 [.sl 2 nl [] o] [] = some (.sl 2 nl [] o, []) := by
      obtain ⟨r, S', e, rfl, rfl⟩ := f124 (.sl 2 nl [] o) [] (fun r S' => r = .sl 2 nl [] o ∧ S' = []) (by simp [s124])
      exact e
    simp only [e1049, OX_some, v122e, e124, fzD]
    exact ⟨[], nl, rfl, List.Pairwise.nil, by simp, by simp⟩
  · have hnl : nl = false := by
      cases nl with
      | true => exact absurd (hn rfl) hl
      | false => rfl
    subst hnl
    have hlen : 0 < l.length := List.length_pos_iff.2 hl
    have e1049 : call dp 1049 [eRows false l] [] = some (arN 0 l.length, put [.gone] 0 l.toArray) := by
      obtain ⟨r, S', e, rfl, rfl⟩ := f1049 (eRows false l) [] (fun r S' => r = arN 0 l.length ∧ S' = put [.gone] 0 l.toArray) (by
        have hm : (l.map eRow).isEmpty = false := by cases l <;> simp_all
        have hml : l.length ≤ maxLenD := by simp [maxLenD]; omega
        have hb : binD .eql .sl (.sl 2 false (l.map eRow) .ro) (.sl 2 true [] .ro) = some (.b false) := rfl
        simp [s1049, appD, eRows, hm, hml, hl, hb]
        exact ⟨rfl, rfl⟩)
      exact e
    have hid : 0 < ([.gone] : Store).length := by simp
    obtain ⟨L, d', e122, hp, hs⟩ := v122 (S := [.gone]) (id := 0) (n := l.length) (d := l.toArray) hid (by simp) h
    have hid' : 0 < (L ++ [Ent.gone]).length := by simp
    have hsz : d'.size = l.length := by rw [hp.1]; simp
    obtain ⟨k, cs, S', e124, hg, hk, hcs⟩ := v124 (S := L ++ [.gone]) (id := 0) (n := l.length) (d := d') hid' hsz hlen (by omega)
    let g : Nat → Row := fun i => d'[i]!
    change k = (ddN g l.length).length at hk
    change cs.take (2 * k) = flatL (ddN g l.length) at hcs
    have hle : 2 * k ≤ cs.length := by
      have := congrArg List.length hcs
      rw [List.length_take, flatL_len, ← hk] at this
      omega
    have hfz : fzD (.ar 2 0 0 k) S' = some (.sl 2 false (chunks 2 k cs) .ro, sset S' 0 .gone) := by
      simp only [fzD, hg]
      rw [if_pos (by omega)]
      rfl
    have key : s81 (call dp) (eRows false l) [] (fun d _ => P (stripT d)) ↔ OX (call dp 1049 [eRows false l] []) fun p2 => OX (call dp 122 [p2.1, cmpF] p2.2) fun p4 => OX (call dp 124 [p2.1] p4.2) fun p6 => OX (fzD p6.1 p6.2) fun p7 => P (stripT p7.1) := Iff.rfl
    rw [key]
    simp only [e1049, OX_some, e122, e124, hfz, chunks_take k cs (ddN g l.length) hk.symm hcs]
    refine ⟨ddN g l.length, false, rfl, ddN_asc g l.length (fun i j hij hj => hs i j (by omega) hij hj) _ (Nat.le_refl _), ?_, by simp⟩
    intro r
    rw [ddN_mem]
    have hperm : d'.toList.Perm l := by
      have := hp.2.2
      have e1 : d'.extract 0 l.length = d' := by rw [← hsz]; simp
      have e2 : l.toArray.extract 0 l.length = l.toArray := by simp
      rw [e1, e2] at this
      exact this
    rw [← hperm.mem_iff]
    constructor
    · rintro ⟨i, hi, rfl⟩
      exact List.mem_of_getElem? (getE (d := d') (by omega))
    · intro hr
      obtain ⟨i, hi, e⟩ := List.mem_iff_getElem.1 hr
      refine ⟨i, by simp at hi; omega, ?_⟩
      have := getE (d := d') (k := i) (by simpa using hi)
      rw [List.getElem?_eq_getElem hi, e] at this
      exact (Option.some.inj this).symm

end Go.Proofs.YtjlmeikcfdanmaaGreatDoor.DE.V

namespace Go.Proofs.YtjlmeikcfdanmaaGreatDoor.DE.V
open Go BT
set_option maxRecDepth 20000

theorem v125 (nl : Bool) (l : List Row) (r : Row) (hb : Bd l.length) : isoCall (call dp) 125 [eRows nl l, .agg (eRow r)] = some (.b (decide (r ∈ l))) := by
  apply i125 _ _ _ (by simp [noRefL]) rfl
  simp [s125]
  let J : Nat → List D → Store → Prop := fun q fr S => ∃ k a4 a9, k + q = l.length ∧ r ∉ l.take k ∧ S = [Ent.box (eRow r)] ∧ fr = mkf 18 [(0, eRows nl l), (3, .bx 0 0), (4, a4), (5, .i .i64 k), (9, a9)]
  refine W_loop J ?_ l.length _ _ ⟨0, _, _, by simp, by simp, rfl, rfl⟩
  rintro q fr S ⟨k, a4, a9, hk, hn, rfl, rfl⟩
  rw [← wp_W, e125_0]
  by_cases h : k < l.length
  · obtain ⟨x, hx⟩ : ∃ x, l[k]? = some x := ⟨_, List.getElem?_eq_getElem (by omega)⟩
    by_cases e : x = r
    · subst e
      have : x ∈ l := List.mem_of_getElem? hx
      simp [s125_0, h, iaD_rows _ hx, this]
    · simp [s125_0, h, iaD_rows _ hx, e, wrapS (hb.lt (Nat.le_of_lt h))]
      refine ⟨q - 1, by omega, k + 1, _, _, by omega, ?_, rfl, rfl⟩
      rw [take_snoc hx]
      simp [hn]
      exact fun h => e h.symm
  · have : l.take k = l := List.take_of_length_le (by omega)
    rw [this] at hn
    simp [s125_0, h, e125_r0, s125_r0, hn]

def c126 (r s : Row) : D := .i .i64 (if r = s then 0 else if ltR r s = true then -1 else 1)

theorem v126 (r s : Row) : isoCall (call dp) 126 [.agg (eRow r), .agg (eRow s)] = some (c126 r s) := by
  apply i126 _ _ _ rfl rfl
  by_cases h : r = s
  · simp [s126, h, c126]
  · cases hc : ltR r s with
    | true =>
      have h1 := (ltR_iff r s).1 hc
      by_cases h2 : r.1 < s.1
      · simp [-OX_b, s126, h, c126, hc, h2]
      · have h3 : r.1 = s.1 := by omega
        have h4 : r.2 < s.2 := by omega
        simp [-OX_b, s126, h, c126, hc, h3, h4]
    | false =>
      have h1 := (ltR_false r s).1 hc
      have h2 : ¬ r.1 < s.1 := fun k => h1 (.inl k)
      by_cases h3 : r.1 = s.1
      · have h4 : ¬ r.2 < s.2 := fun k => h1 (.inr ⟨h3, k⟩)
        simp [-OX_b, s126, h, c126, hc, h3, h4]
      · simp [-OX_b, s126, h, c126, hc, h2, h3]

theorem lss_126 (r s : Row) : binD .lss .num (c126 r s) (.i .i64 0) = some (.b (ltR r s)) := by
  simp only [c126, bin_lss]
  by_cases h : r = s
  · subst h; rw [if_pos rfl, swo.irrefl]; rfl
  · rw [if_neg h]; cases ltR r s <;> rfl

/-- A row put in its place. -/
def insR (r : Row) : List Row → List Row
  | [] => [r]
  | x :: l => if ltR r x = true then r :: x :: l else x :: insR r l

theorem insR_mem (r s : Row) : ∀ l, s ∈ insR r l ↔ s = r ∨ s ∈ l
  | [] => by simp [insR]
  | x :: l => by
    simp only [insR]
    split
    · simp
    · simp only [List.mem_cons, insR_mem r s l]
      constructor
      · rintro (h | h | h)
        · exact .inr (.inl h)
        · exact .inl h
        · exact .inr (.inr h)
      · rintro (h | h | h)
        · exact .inr (.inl h)
        · exact .inl h
        · exact .inr (.inr h)

theorem insR_asc (r : Row) : ∀ {l : List Row}, Asc l → r ∉ l → Asc (insR r l)
  | [], _, _ => List.pairwise_singleton _ _
  | x :: l, h, hn => by
    obtain ⟨hx, hl⟩ := List.pairwise_cons.1 h
    simp only [List.mem_cons, not_or] at hn
    simp only [insR]
    split
    · rename_i hc
      refine List.pairwise_cons.2 ⟨?_, h⟩
      intro y hy
      rcases List.mem_cons.1 hy with rfl | hy
      · exact hc
      · exact swo.trans _ _ _ hc (hx y hy)
    · rename_i hc
      refine List.pairwise_cons.2 ⟨?_, insR_asc r hl hn.2⟩
      intro y hy
      rcases (insR_mem r y l).1 hy with rfl | hy
      · cases h2 : ltR x y with
        | true => rfl
        | false => exact absurd (ltR_total (by simpa using hc) h2) hn.1
      · exact hx y hy

theorem insR_len (r : Row) : ∀ l, (insR r l).length = l.length + 1
  | [] => rfl
  | x :: l => by
    simp only [insR]
    split
    · rfl
    · simp [insR_len r l]

theorem cells_row (r : Row) : cellsV 2 true [.agg (eRow r)] = some [eRow r] := rfl

theorem app_row {S : Store} {nl n' : Bool} {o o' : Own} (l : List Row) (r : Row) (h : LivC S nl l.length o) (hk : l.length ≤ 1000000) :
    ∃ t S', appD 2 false (.sl 2 nl (l.map eRow) o) (.sl 2 n' [eRow r] o') S = some (.sl 2 false ((l ++ [r]).map eRow) (.tok t), S') ∧ sget S' t = some (.tok true) ∧ Pres S S' := by
  obtain ⟨t, S', e, a, b⟩ := app_livC (k := 2) (n' := n') (xs := l.map eRow) (ys := [eRow r]) (o' := o') (by simpa using h) (by simp [maxLenD]; omega) (by simp)
  exact ⟨t, S', by rw [e]; simp, a, b⟩

theorem v82 (nl : Bool) (l : List Row) (r : Row) (hl : l.length ≤ 100000) :
    isoCall (call dp) 82 [eRows nl l, .agg (eRow r)] = some (if r ∈ l then eRows nl l else eRows false (insR r l)) := by
  apply i82 _ _ _ (by simp [noRefL]) (by split <;> simp)
  have e125 := v125 nl l r (by unfold Bd; omega)
  by_cases hr : r ∈ l
  · simp [s82, e125, hr]
  · simp [s82, e125, hr]
    let J : Nat → List D → Store → Prop := fun q fr S => ∃ (k : Nat) (done : Bool) (out : List Row) (o : Own) (a4 a16 : D), k + q = l.length ∧ out.length ≤ k + 1 ∧ LivC S false out.length o ∧ sget S 0 = some (.box (eRow r)) ∧
      (if done = true then insR r l = out ++ l.drop k else out = l.take k ∧ insR r l = l.take k ++ insR r (l.drop k)) ∧
      fr = mkf 48 [(0, eRows nl l), (3, .bx 0 0), (4, a4), (5, .sl 2 false (out.map eRow) o), (6, .b done), (7, .i .i64 k), (16, a16)]
    refine W_loop J ?_ l.length _ _ ⟨0, false, [], .cap0, _, _, by omega, by simp, .inr ⟨rfl, rfl, rfl⟩, rfl, by simp, rfl⟩
    rintro q fr S ⟨k, done, out, o, a4, a16, hk, hol, hL, hS, hinv, rfl⟩
    rw [← wp_W, e82_0]
    have ldr : ∀ (S : Store) (x : Row), ldD S 2 true (.el (eRow x) 0) = some (.agg (eRow x)) := ldD_el_row
    have ld3 : ldD S 2 true (.bx 0 0) = some (.agg (eRow r)) := by simp [hS]
    by_cases h : k < l.length
    · have h' : (k : Int) < (l.length : Int) := by omega
      obtain ⟨x, hx⟩ : ∃ x, l[k]? = some x := ⟨_, List.getElem?_eq_getElem h⟩
      have hia := iaD_rows (nl := nl) .i64 hx
      have hdr : l.drop k = x :: l.drop (k + 1) := by
        rw [List.getElem?_eq_getElem h] at hx
        rw [List.drop_eq_getElem_cons h, Option.some.inj hx]
      have wk := wrapS (show Bd k by unfold Bd; omega)
      cases done with
      | true =>
        rw [if_pos rfl] at hinv
        obtain ⟨t, S', e, a, b⟩ := app_row (n' := false) (o' := .ro) out x hL (by omega)
        simp only [s82_0, lenD_rows', OX_some, bin_lss, h', decide_true, WB_b, if_true, un_not, Bool.not_true, gsel_ft, gsel_skip, pick_f, jn_eq, Bool.false_eq_true, if_false, hia, ldr, cells_row, e, bin_add, wk, Qseq_normal]
        exact ⟨q - 1, by omega, k + 1, true, out ++ [x], .tok t, _, _, by omega, by simp; omega, .tok a, b _ _ hS, by rw [if_pos rfl, hinv, hdr]; simp, rfl⟩
      | false =>
        rw [if_neg (by simp)] at hinv
        obtain ⟨h1, h2⟩ := hinv
        rw [hdr] at h2
        have e126 := v126 r x
        cases hc : ltR r x with
        | true =>
          obtain ⟨t, S', e, a, b⟩ := app_row (n' := false) (o' := .ro) out r hL (by omega)
          obtain ⟨t2, S2, e2, a2, b2⟩ := app_row (n' := false) (o' := .ro) (out ++ [r]) x (LivC.tok a) (by simp; omega)
          simp only [s82_0, lenD_rows', OX_some, bin_lss, h', decide_true, WB_b, if_true, un_not, Bool.not_false, gsel_tt, ld3, hia, ldr, e126, lss_126, hc, pick_t, jn_eq, cells_row, e, e2, bin_add, wk, Qseq_normal]
          refine ⟨q - 1, by omega, k + 1, true, out ++ [r] ++ [x], .tok t2, _, _, by omega, by simp [h1]; omega, .tok a2, b2 _ _ (b _ _ hS), ?_, rfl⟩
          rw [if_pos rfl, h2, insR, if_pos hc, h1]
          simp
        | false =>
          obtain ⟨t, S', e, a, b⟩ := app_row (n' := false) (o' := .ro) out x hL (by omega)
          simp only [s82_0, lenD_rows', OX_some, bin_lss, h', decide_true, WB_b, if_true, un_not, Bool.not_false, gsel_tt, ld3, hia, ldr, e126, lss_126, hc, pick_t, jn_eq, Bool.false_eq_true, if_false, cells_row, e, bin_add, wk, Qseq_normal]
          refine ⟨q - 1, by omega, k + 1, false, out ++ [x], .tok t, _, _, by omega, by simp; omega, .tok a, b _ _ hS, ?_, rfl⟩
          rw [if_neg (by simp)]
          refine ⟨by rw [take_snoc hx, h1], ?_⟩
          rw [h2, insR, if_neg (by simp [hc]), take_snoc hx]
          simp
    · have hkl : k = l.length := by omega
      have h' : ¬ (k : Int) < (l.length : Int) := by omega
      have hdr : l.drop k = [] := List.drop_of_length_le (by omega)
      have htk : l.take k = l := List.take_of_length_le (by omega)
      cases done with
      | true =>
        rw [if_pos rfl, hdr, List.append_nil] at hinv
        simp [s82_0, h', e82_r0, s82_r0, jn_eq]
        rw [hinv]; rfl
      | false =>
        rw [if_neg (by simp), hdr, htk] at hinv
        obtain ⟨h1, h2⟩ := hinv
        obtain ⟨t, S', e, a, b⟩ := app_row (n' := false) (o' := .ro) out r hL (by omega)
        simp only [s82_0, lenD_rows', OX_some, bin_lss, h', decide_false, WB_b, Bool.false_eq_true, if_false, Qseq_exit, Qblk_same, QS_normal, e82_r0, s82_r0, un_not, Bool.not_false, if_true, jn_eq, ld3, cells_row, e, FinK_ret1]
        rw [h2, h1]; rfl

theorem v43 (nl : Bool) (l : List Row) (hl : l.length ≤ 10000) :
    ∃ s, isoCall (call dp) 43 [eRows nl l] = some (eRows false s) ∧ Asc s ∧ (∀ r, r ∈ s ↔ r ∈ l) := by
  let P : D → Prop := fun d => ∃ s, d = eRows false s ∧ Asc s ∧ (∀ r, r ∈ s ↔ r ∈ l)
  suffices h : ∃ d, isoCall (call dp) 43 [eRows nl l] = some d ∧ P d by
    obtain ⟨d, e, s, rfl, h1⟩ := h
    exact ⟨s, e, h1⟩
  apply j43 _ _ (by simp [noRefL]) (by rintro r ⟨s, rfl, _⟩; simp)
  simp [s43]
  let J : Nat → List D → Store → Prop := fun q fr S => ∃ (k : Nat) (out : List Row) (o : Own) (a2 a9 : D), k + q = l.length ∧ out.length ≤ k ∧ Asc out ∧ (∀ r, r ∈ out ↔ r ∈ l.take k) ∧
    fr = mkf 19 [(0, eRows nl l), (2, a2), (3, .sl 2 false (out.map eRow) o), (4, .i .i64 k), (9, a9)]
  refine W_loop J ?_ l.length _ _ ⟨0, [], .cap0, _, _, by omega, by simp, List.Pairwise.nil, by simp, rfl⟩
  rintro q fr S ⟨k, out, o, a2, a9, hk, hol, hasc, hmem, rfl⟩
  rw [← wp_W, e43_0]
  by_cases h : k < l.length
  · have h' : (k : Int) < (l.length : Int) := by omega
    obtain ⟨x, hx⟩ : ∃ x, l[k]? = some x := ⟨_, List.getElem?_eq_getElem h⟩
    have hia := iaD_rows (nl := nl) .i64 hx
    have e82 : isoCall (call dp) 82 [.sl 2 false (out.map eRow) o, .agg (eRow x)] = _ := v82 false out x (by omega)
    have wk := wrapS (show Bd k by unfold Bd; omega)
    simp only [s43_0, lenD_rows', OX_some, bin_lss, h', decide_true, WB_b, if_true, hia, ldD_el_row, e82, bin_add, wk, Qseq_normal]
    by_cases hin : x ∈ out
    · rw [if_pos hin]
      refine ⟨q - 1, by omega, k + 1, out, .ro, _, _, by omega, by omega, hasc, ?_, rfl⟩
      intro r
      rw [take_snoc hx, List.mem_append, List.mem_singleton, ← hmem]
      constructor
      · exact .inl
      · rintro (h | rfl)
        · exact h
        · exact hin
    · rw [if_neg hin]
      refine ⟨q - 1, by omega, k + 1, insR x out, .ro, _, _, by omega, by rw [insR_len]; omega, insR_asc x hasc hin, ?_, rfl⟩
      intro r
      rw [insR_mem, take_snoc hx, List.mem_append, List.mem_singleton, ← hmem]
      exact Or.comm
  · have hkl : k = l.length := by omega
    have h' : ¬ (k : Int) < (l.length : Int) := by omega
    have htk : l.take k = l := List.take_of_length_le (by omega)
    rw [htk] at hmem
    simp [s43_0, h', e43_r0, s43_r0]
    exact ⟨out, rfl, hasc, hmem⟩

end Go.Proofs.YtjlmeikcfdanmaaGreatDoor.DE.V

namespace Go.Proofs.YtjlmeikcfdanmaaGreatDoor.DE.V
open Go BT
set_option maxRecDepth 20000

/-- Does a function look at a variable? -/
def dep (f : (Nat → Bool) → Bool) (i : Nat) : Prop := ¬ ∀ a, f (upd a i false) = f (upd a i true)

theorem tab_eq {n : Nat} {f g : (Nat → Bool) → Bool} (hf : Dep n 0 f) (hg : Dep n 0 g) : tabOf n f = tabOf n g ↔ ∀ a, f a = g a := by
  constructor
  · intro h a
    obtain ⟨x, hx, hb⟩ := enc a n
    have h1 := tabOf_get f hx
    rw [h, tabOf_get g hx] at h1
    have e1 : f (bitsA x) = f a := hf _ _ fun i _ hi => hb i hi
    have e2 : g (bitsA x) = g a := hg _ _ fun i _ hi => hb i hi
    rw [← e1, ← e2]
    exact (Option.some.inj h1).symm
  · intro h
    have : f = g := funext h
    rw [this]

theorem dep_upd' {n i : Nat} {f : (Nat → Bool) → Bool} (hd : Dep n 0 f) (c : Bool) : Dep n 0 (fun s => f (upd s i c)) := by
  intro s r e
  refine hd _ _ fun j h0 hj => ?_
  simp only [upd]
  split
  · rfl
  · exact e j h0 hj

theorem v42 (nl nl' : Bool) (ord : List Row) (h7 : ord.length ≤ 7) (f : (Nat → Bool) → Bool) (hd : Dep ord.length 0 f) :
    ∃ s, isoCall (call dp) 42 [eRows nl ord, eBools nl' (tabOf ord.length f)] = some (eRows false s) ∧ Asc s ∧ (∀ r, r ∈ s ↔ ∃ i, ord[i]? = some r ∧ dep f i) := by
  let P : D → Prop := fun d => ∃ s, d = eRows false s ∧ Asc s ∧ (∀ r, r ∈ s ↔ ∃ i, ord[i]? = some r ∧ dep f i)
  suffices h : ∃ d, isoCall (call dp) 42 [eRows nl ord, eBools nl' (tabOf ord.length f)] = some d ∧ P d by
    obtain ⟨d, e, s, rfl, h1⟩ := h
    exact ⟨s, e, h1⟩
  apply j42 _ _ _ (by simp [noRefL]) (by rintro r ⟨s, rfl, _⟩; simp)
  simp [s42]
  have hp := pow7 h7
  let J : Nat → List D → Store → Prop := fun q fr S => ∃ (k : Nat) (out : List Row) (nn : Bool) (o : Own) (a4 a7 a8 a9 a10 a15 a27 a42 : D), k + q = ord.length ∧ out.length ≤ k ∧ LivC S nn out.length o ∧ (∀ r, r ∈ out ↔ ∃ i, i < k ∧ ord[i]? = some r ∧ dep f i) ∧
    fr = mkf 52 [(0, eRows nl ord), (1, eBools nl' (tabOf ord.length f)), (4, a4), (5, .sl 2 nn (out.map eRow) o), (6, .i .i64 k), (7, a7), (8, a8), (9, a9), (10, a10), (15, a15), (27, a27), (42, a42)]
  refine W_loop J ?_ ord.length _ _ ⟨0, [], false, .cap0, _, _, _, _, _, _, _, _, by omega, by simp, .inr ⟨rfl, rfl, rfl⟩, by simp, rfl⟩
  rintro q fr S ⟨k, out, nn, o, a4, a7, a8, a9, a10, a15, a27, a42, hk, hol, hL, hmem, rfl⟩
  rw [← wp_W, e42_1]
  by_cases h : k < ord.length
  case neg =>
    have h' : ¬ (k : Int) < (ord.length : Int) := by omega
    obtain ⟨s, e43, hs1, hs2⟩ := v43 nn out (by omega)
    have e43' : isoCall (call dp) 43 [.sl 2 nn (out.map eRow) o] = some (eRows false s) := e43
    simp only [s42_1, lenD_rows', OX_some, bin_lss, h', decide_false, WB_b, Bool.false_eq_true, if_false, Qseq_exit, Qblk_same, QS_normal, e42_r2, s42_r2, e43', FinK_ret1]
    refine ⟨s, rfl, hs1, ?_⟩
    intro r
    rw [hs2, hmem]
    constructor
    · rintro ⟨i, _, h1, h2⟩; exact ⟨i, h1, h2⟩
    · rintro ⟨i, h1, h2⟩
      have := (List.getElem?_eq_some_iff.1 h1).1
      exact ⟨i, by omega, h1, h2⟩
  have h' : (k : Int) < (ord.length : Int) := by omega
  obtain ⟨x, hx⟩ : ∃ x, ord[k]? = some x := ⟨_, List.getElem?_eq_getElem h⟩
  have hir := iaD_rows (nl := nl) .i64 hx
  have e0 := v40 nl' ord.length k false h7 h f hd
  have e1 := v40 nl' ord.length k true h7 h f hd
  have hte : tabOf ord.length (fun s => f (upd s k false)) = tabOf ord.length (fun s => f (upd s k true)) ↔ ¬ dep f k := by
    rw [tab_eq (dep_upd' hd false) (dep_upd' hd true), dep, Classical.not_not]
  generalize hA : tabOf ord.length (fun s => f (upd s k false)) = A at *
  generalize hB : tabOf ord.length (fun s => f (upd s k true)) = B at *
  have lA : A.length = 2 ^ ord.length := by rw [← hA, tabOf_len]
  have lB : B.length = 2 ^ ord.length := by rw [← hB, tabOf_len]
  simp only [s42_1, lenD_rows', OX_some, bin_lss, h', decide_true, WB_b, if_true, e0, e1]
  let J2 : Nat → List D → Store → Prop := fun q fr S' => ∃ (j : Nat) (c : Bool) (a15 a27 a42 : D), j + q = 2 ^ ord.length ∧ (c = true ↔ A.take j ≠ B.take j) ∧ S' = S ∧
    fr = mkf 52 [(0, eRows nl ord), (1, eBools nl' (tabOf ord.length f)), (4, a4), (5, .sl 2 nn (out.map eRow) o), (6, .i .i64 k), (7, eBools false A), (8, eBools false B), (9, .b c), (10, .i .i64 j), (15, a15), (27, a27), (42, a42)]
  refine W_loop J2 ?_ (2 ^ ord.length) _ _ ⟨0, false, _, _, _, by omega, by simp, rfl, rfl⟩
  rintro q2 fr S' ⟨j, c, a15, a27, a42, hj, hc, rfl, rfl⟩
  rw [← wp_W, e42_0]
  by_cases hjl : j < 2 ^ ord.length
  · have hj' : (j : Int) < (A.length : Int) := by omega
    have gA : A[j]? = some A[j] := List.getElem?_eq_getElem (by omega)
    have gB : B[j]? = some B[j] := List.getElem?_eq_getElem (by omega)
    generalize hxA : A[j] = xA at *
    generalize hxB : B[j] = xB at *
    have hiA := ia_bools (nl := false) gA
    have hiB := ia_bools (nl := false) gB
    have wk := wrapS (show Bd j by unfold Bd; omega)
    have hlen : (A.take j).length = (B.take j).length := by simp [lA, lB]
    have ldb : ∀ c : Bool, ldD S' 1 false (.el [.b c] 0) = some (.b c) := fun _ => rfl
    have step : (A.take (j + 1) ≠ B.take (j + 1)) ↔ (A.take j ≠ B.take j ∨ xA ≠ xB) := by
      rw [take_snoc gA, take_snoc gB]
      constructor
      · intro h
        by_cases e : A.take j = B.take j
        · right; rintro rfl; exact h (by rw [e])
        · exact .inl e
      · rintro h e
        have := List.append_inj e hlen
        rcases h with h | h
        · exact h this.1
        · exact h (by simpa using this.2)
    cases c with
    | true =>
      simp only [s42_0, len_bools, OX_some, bin_lss, hj', decide_true, WB_b, if_true, gsel_tf, gsel_skip, pick_t, bin_add, wk, Qseq_normal]
      exact ⟨q2 - 1, by omega, j + 1, true, _, _, _, by omega, by rw [step]; simp only [true_iff]; exact .inl (hc.1 rfl), rfl, rfl⟩
    | false =>
      simp only [s42_0, len_bools, OX_some, bin_lss, hj', decide_true, WB_b, if_true, gsel_ff, hiA, hiB, ldb, bin_bneq, pick_f, bin_add, wk, Qseq_normal]
      refine ⟨q2 - 1, by omega, j + 1, !(xA == xB), _, _, _, by omega, ?_, rfl, rfl⟩
      rw [step]
      have hn : ¬ (A.take j ≠ B.take j) := fun h => by have := hc.2 h; cases this
      simp only [hn, false_or]
      simp
  · have hjl' : j = 2 ^ ord.length := by omega
    have hj' : ¬ (j : Int) < (A.length : Int) := by omega
    rw [List.take_of_length_le (by omega), List.take_of_length_le (by omega)] at hc
    have hcd : c = true ↔ dep f k := by
      rw [hc, Ne, hte, Classical.not_not]
    have wk := wrapS (show Bd k by unfold Bd; omega)
    cases c with
    | true =>
      obtain ⟨t, S2, e, a, _⟩ := app_row (n' := false) (o' := .ro) out x hL (by omega)
      simp only [s42_0, len_bools, OX_some, bin_lss, hj', decide_false, WB_b, Bool.false_eq_true, if_false, Qseq_exit, Qblk_same, QS_normal, e42_r0, s42_r0, jn_eq, if_true, hir, ldD_el_row, cells_row, e, Qblk_normal, e42_r1, s42_r1, bin_add, wk, Qseq_normal]
      refine ⟨q - 1, by omega, k + 1, out ++ [x], false, .tok t, _, _, _, _, _, _, _, _, by omega, by simp; omega, .tok a, ?_, rfl⟩
      intro r
      rw [List.mem_append, List.mem_singleton, hmem]
      constructor
      · rintro (⟨i, h1, h2⟩ | rfl)
        · exact ⟨i, by omega, h2⟩
        · exact ⟨k, by omega, hx, hcd.1 rfl⟩
      · rintro ⟨i, h1, h2, h3⟩
        by_cases e : i = k
        · subst e; rw [hx] at h2; exact .inr (Option.some.inj h2).symm
        · exact .inl ⟨i, by omega, h2, h3⟩
    | false =>
      simp only [s42_0, len_bools, OX_some, bin_lss, hj', decide_false, WB_b, Bool.false_eq_true, if_false, Qseq_exit, Qblk_same, QS_normal, e42_r0, s42_r0, jn_eq, Qblk_normal, e42_r1, s42_r1, bin_add, wk, Qseq_normal]
      refine ⟨q - 1, by omega, k + 1, out, nn, o, _, _, _, _, _, _, _, _, by omega, by omega, hL, ?_, rfl⟩
      intro r
      rw [hmem]
      constructor
      · rintro ⟨i, h1, h2⟩; exact ⟨i, by omega, h2⟩
      · rintro ⟨i, h1, h2, h3⟩
        by_cases e : i = k
        · subst e; have := hcd.2 h3; cases this
        · exact ⟨i, by omega, h2, h3⟩

open Classical in
theorem v39 (nl nl' : Bool) (ord : List Row) (t : T) (hn : nl = true → ord = []) (h7 : ord.length ≤ 7) (ho : OrdOk ord) (w : Wf ord.length t) (h49 : (post t []).length ≤ 49) :
    ∃ s m, isoCall (call dp) 39 [eT nl nl' ord t] = some (eRows m s) ∧ Asc s ∧ (m = true → s = []) ∧ (∀ r, r ∈ s ↔ ∃ i, ord[i]? = some r ∧ i ∈ vars t) := by
  have hsm := small h7 w
  obtain ⟨hL, hs, hw⟩ := post_nil t
  have hw := hw _ w
  have hv1 := fun i hi => vars_post hs i hi hL
  have hv2 := post_vars t
  have e33 : isoCall (call dp) 33 [eT nl nl' ord t] = some (.b true) := by
    have := v33 nl nl' ord (nds (post t [])) (code (post t []) t) hn (by rw [nds_len]; unfold Bd; omega) (by unfold Bd; omega)
    rw [decide_eq_true (VB_VT.2 ⟨t, VT_eT ho h7 w⟩)] at this
    exact this
  let P : D → Prop := fun d => ∃ s m, d = eRows m s ∧ Asc s ∧ (m = true → s = []) ∧ (∀ r, r ∈ s ↔ ∃ i, ord[i]? = some r ∧ i ∈ vars t)
  suffices h : ∃ d, isoCall (call dp) 39 [eT nl nl' ord t] = some d ∧ P d by
    obtain ⟨d, e, s, m, rfl, h1⟩ := h
    exact ⟨s, m, e, h1⟩
  simp only [eT] at e33 ⊢
  generalize hLd : post t [] = L at *
  apply j39 _ _ (by simp [noRefL]) (by rintro r ⟨s, m, rfl, _⟩; simp)
  rw [strip_eB]
  simp only [eB] at e33 ⊢
  simp [s39, e33, nds_len]
  let J : Nat → List D → Store → Prop := fun q fr S => ∃ (k : Nat) (out : List Row) (nn : Bool) (o : Own) (a2 a13 : D), k + q = L.length ∧ out.length = k ∧ Liv S nn out.length o ∧ (∀ r, r ∈ out ↔ ∃ s v l h, s = T.node v l h ∧ s ∈ L.take k ∧ ord[v]? = some r) ∧
    sget S 0 = some (.box [eRows nl ord, eNds nl' (nds L), .i .i64 (code L t)]) ∧
    fr = mkf 28 [(1, .bx 0 0), (2, a2), (3, .sl 2 nn (out.map eRow) o), (10, eNds nl' (nds L)), (11, .i .i64 L.length), (12, .i .i64 k), (13, a13)]
  refine W_loop J ?_ L.length _ _ ⟨0, [], true, .ro, _, _, by omega, rfl, .inl ⟨rfl, rfl, rfl⟩, by simp, rfl, rfl⟩
  rintro q fr S ⟨k, out, nn, o, a2, a13, hk, hol, hl, hmem, hS, rfl⟩
  rw [← wp_W, e39_0]
  by_cases h : k < L.length
  · have h' : (k : Int) < (L.length : Int) := by omega
    obtain ⟨x, hx⟩ : ∃ x, L[k]? = some x := ⟨_, List.getElem?_eq_getElem h⟩
    have hxL : x ∈ L := List.mem_of_getElem? hx
    have hnx : (nds L)[k]? = some (nd L x) := by simp [nds, hx]
    have hia := iaD_nds (nl := nl') .i64 hnx
    cases x with
    | leaf b => exact absurd (Cl_kids hL _ hxL) (by simp [kids])
    | node v l r =>
      have hwt := hw _ hxL
      obtain ⟨y, hy⟩ : ∃ y, ord[v]? = some y := ⟨_, List.getElem?_eq_getElem hwt.1⟩
      have hir := iaD_rows (nl := nl) .i64 hy
      simp only [nd] at hia
      obtain ⟨t', S', e, a, b, _⟩ := app_liv (k := 2) (n' := false) (xs := out.map eRow) (ys := [eRow y]) (o' := .ro) (by rw [List.length_map]; exact hl.push (.box (eNd ((v : Int), code L l, code L r)))) (by simp [maxLenD]; omega) (by simp)
      have wk := wrapS (show Bd k by unfold Bd; omega)
      rw [show out.map eRow ++ [eRow y] = (out ++ [y]).map eRow by simp] at e
      simp [-OX_b, -List.map_append, s39_0, h', hia, sget_push hS, hir, e, wk]
      refine ⟨q - 1, by omega, k + 1, out ++ [y], false, .tok t', _, _, by omega, by simp [hol], .inr ⟨rfl, t', rfl, a⟩, ?_, b _ _ (sget_push hS), rfl⟩
      intro r'
      rw [List.mem_append, List.mem_singleton, hmem, take_snoc hx]
      constructor
      · rintro (⟨s, v', l', h', e1, e2, e3⟩ | rfl)
        · exact ⟨s, v', l', h', e1, List.mem_append_left _ e2, e3⟩
        · exact ⟨_, v, l, r, rfl, by simp, hy⟩
      · rintro ⟨s, v', l', h', e1, e2, e3⟩
        rcases List.mem_append.1 e2 with e2 | e2
        · exact .inl ⟨s, v', l', h', e1, e2, e3⟩
        · rw [List.mem_singleton, e1] at e2
          cases e2
          rw [hy] at e3
          exact .inr (Option.some.inj e3).symm
  · have hkl : k = L.length := by omega
    have h' : ¬ (k : Int) < (L.length : Int) := by omega
    have hnn : nn = true → out = [] := by
      intro e
      rcases hl with ⟨_, h2, _⟩ | ⟨h1, _⟩
      · exact List.length_eq_zero_iff.1 h2
      · rw [h1] at e; cases e
    obtain ⟨s, m, e81, hs1, hs2, hs3⟩ := v81 nn out hnn (by omega)
    have e81' : isoCall (call dp) 81 [.sl 2 nn (out.map eRow) o] = some (eRows m s) := e81
    simp only [s39_0, OX_some, bin_lss, h', decide_false, WB_b, Bool.false_eq_true, if_false, Qseq_exit, Qblk_same, QS_normal, e39_r0, s39_r0, e81', FinK_ret1]
    refine ⟨s, m, rfl, hs1, hs3, ?_⟩
    intro r
    rw [hs2, hmem, hkl, List.take_length]
    constructor
    · rintro ⟨s, v, l, h, rfl, e2, e3⟩
      exact ⟨v, e3, hv2 _ e2 v (by simp [vars])⟩
    · rintro ⟨i, e1, e2⟩
      obtain ⟨l, h, hm⟩ := hv1 i e2
      exact ⟨_, i, l, h, rfl, hm, e1⟩

open Classical in
theorem v39_bad (nl nl' : Bool) (ord : List Row) (ns : List Nd) (root : Int) (hn : nl = true → ord = []) (hb : Bd (ns.length + 2)) (hb' : Bd ord.length) (hv : ¬ VB ord ns root) :
    isoCall (call dp) 39 [eB nl nl' ord ns root] = some (.sl 2 true [] .ro) := by
  have e33 := v33 nl nl' ord ns root hn hb hb'
  simp only [hv, decide_false, eB] at e33
  apply i39 _ _ (by simp [noRefL]) rfl
  simp [s39, e33]
  rfl

end Go.Proofs.YtjlmeikcfdanmaaGreatDoor.DE.V

namespace Go.Proofs.YtjlmeikcfdanmaaGreatDoor.DE.V
open Go BT

/-- Restriction by the index of a row, or by none. -/
noncomputable def resZ (fx : Int) (b : Bool) : T → T
  | .leaf c => .leaf c
  | .node w l h => if (w : Int) = fx then (if b then resZ fx b h else resZ fx b l) else mk w (resZ fx b l) (resZ fx b h)

theorem resZ_nat (v : Nat) (b : Bool) : ∀ t, resZ v b t = resT v b t
  | .leaf _ => rfl
  | .node w l h => by
    simp only [resZ, resT, resZ_nat v b l, resZ_nat v b h]
    by_cases e : w = v
    · subst e; simp
    · have : ¬ (w : Int) = v := by omega
      simp [e, this]
theorem resZ_neg {n : Nat} {fx : Int} (b : Bool) (hf : fx < 0) : ∀ {t : T}, Wf n t → resZ fx b t = t
  | .leaf _, _ => rfl
  | .node w l h, k => by
    have : ¬ (w : Int) = fx := by omega
    simp only [resZ, if_neg this, resZ_neg b hf k.2.2.2.2.1, resZ_neg b hf k.2.2.2.2.2, mk, if_neg k.2.2.2.1]

theorem Cl_take {L : List T} (hL : Cl L) (k : Nat) : Cl (L.take k) := Cl_pre (M := L.drop k) (by rwa [List.take_append_drop])

theorem refs_get {L : List T} (k : Nat) (f : T → Int) (h0 : f (.leaf false) = 0) (h1 : f (.leaf true) = 1) : ∀ {s : T}, sub (L.take k) s → ([0, 1] ++ (L.take k).map f)[(code L s).toNat]? = some (f s)
  | .leaf b, _ => by cases b <;> simp [code, h0, h1]
  | .node v l h, hs => by
    have e : code L (.node v l h) = code (L.take k) (.node v l h) := by
      have := code_app (L.drop k) hs
      rwa [List.take_append_drop] at this
    have hp : (code L (.node v l h)).toNat = pos (L.take k) (.node v l h) + 2 := by rw [e]; simp only [code]; omega
    rw [hp]
    have hs' : T.node v l h ∈ L.take k := hs
    simp only [List.cons_append, List.nil_append, List.getElem?_cons_succ]
    rw [List.getElem?_map, pos_get hs']
    rfl

theorem iaD_ints {nl : Bool} {l : List Int} {o : Own} {n m : Int} (h0 : 0 ≤ n) (h : l[n.toNat]? = some m) : iaD 1 (eInts nl l o) (.i .i64 n) = some (.el [.i .i64 m] 0) := by
  simp [eInts, iaD, h, h0]

open Classical in
theorem v38 (nl nl' : Bool) (ord : List Row) (ns : List Nd) (root : Int) (r : Row) (b : Bool) (t : T) (hv : VT ord ns root t) (hn : nl = true → ord = []) :
    ∃ n : Bool, (n = true → post (resZ (ixOf r ord) b t) [] = []) ∧ isoCall (call dp) 38 [eB nl nl' ord ns root, .agg (eRow r), .b b] = some (eB nl n ord (nds (post (resZ (ixOf r ord) b t) [])) (code (post (resZ (ixOf r ord) b t) []) (resZ (ixOf r ord) b t))) := by
  have hvb := VB_VT.2 ⟨t, hv⟩
  obtain ⟨ho, wt, rfl, rfl, hz⟩ := hv
  have e33 := v33 nl nl' ord (nds (post t [])) (code (post t []) t) hn (by rw [nds_len]; unfold Bd; omega) (by unfold Bd; omega)
  simp only [hvb, decide_true, eB] at e33
  have e50 := v50 nl ord r (by unfold Bd; omega)
  obtain ⟨cL, sL, wL⟩ := post_nil t
  generalize post t [] = L at *
  let Po : D → Prop := fun d => ∃ n : Bool, (n = true → post (resZ (ixOf r ord) b t) [] = []) ∧ d = eB nl n ord (nds (post (resZ (ixOf r ord) b t) [])) (code (post (resZ (ixOf r ord) b t) []) (resZ (ixOf r ord) b t))
  obtain ⟨d, hd, n, h1, rfl⟩ := j38 (eB nl nl' ord (nds L) (code L t)) (.agg (eRow r)) (.b b) Po (by simp [noRefL]) (by rintro _ ⟨n, _, rfl⟩; simp) (by
    simp [s38, e33, e50]
    rw [show cellsV 1 false [D.i .i64 0, .i .i64 1] = some [[.i .i64 0], [.i .i64 1]] from rfl]
    simp [bslO, nds_len]
    generalize hfx : ixOf r ord = fx at *
    let J : Nat → List D → Store → Prop := fun q fr S => ∃ k M tk a27, k + q = L.length ∧ sget S 0 = some (.box [eRows nl ord, eNds nl' (nds L), .i .i64 (code L t)]) ∧ sget S 2 = some (.box [.sl 2 true [] .ro, .sl 3 true [] .ro, .i .i64 0]) ∧
      MkI 3 (fun j => j = tk) M S ∧ Cl M ∧ M.length ≤ k ∧ sget S tk = some (.tok true) ∧ (∀ s, s ∈ L.take k → sub M (resZ fx b s)) ∧
      fr = mkf 66 [(2, .b b), (3, .bx 0 0), (6, .bx 2 0), (7, .i .i64 fx), (8, .bx 3 0), (9, eInts false ([0, 1] ++ (L.take k).map fun s => code M (resZ fx b s)) (.tok tk)), (24, eNds nl' (nds L)), (25, .i .i64 L.length), (26, .i .i64 k), (27, a27)]
    refine W_loop J ?_ L.length _ _ ⟨0, [], 4, _, by simp, rfl, rfl, ⟨true, .ro, .nilm, rfl, .inl ⟨rfl, rfl, rfl⟩, (fun _ h => by cases h), .inl ⟨rfl, rfl⟩⟩, Cl_nil, by simp, rfl, by simp, rfl⟩
    rintro q fr S ⟨k, M, tk, a27, hk, g0, g2, hI, hM, hMk, gt, hsub, rfl⟩
    rw [← wp_W, e38_0]
    have f0 : ∀ N, code N (resZ fx b (.leaf false)) = 0 := fun _ => rfl
    have f1 : ∀ N, code N (resZ fx b (.leaf true)) = 1 := fun _ => rfl
    by_cases hkl : k < L.length
    · obtain ⟨x, hx⟩ : ∃ x, L[k]? = some x := ⟨_, List.getElem?_eq_getElem (by omega)⟩
      have hxL := List.mem_of_getElem? hx
      have hxn : (nds L)[k]? = some (nd L x) := by simp [nds, hx]
      have hkid : kids (L.take k) x := by
        have := Cl_take cL (k + 1)
        rw [take_snoc hx] at this
        exact (Cl_snoc.1 this).2.2
      have hwx := wL _ wt x hxL
      have hxR : resZ fx b x = resZ fx b x := rfl
      cases x with
      | leaf _ => exact hkid.elim
      | node v l h =>
        have l0 := sget_lt g0
        have r1 := refs_get k (fun s => code M (resZ fx b s)) (f0 M) (f1 M) hkid.1
        have r2 := refs_get k (fun s => code M (resZ fx b s)) (f0 M) (f1 M) hkid.2
        have i1 := iaD_ints (nl := false) (o := .tok tk) (code_nonneg L l) r1
        have i2 := iaD_ints (nl := false) (o := .tok tk) (code_nonneg L h) r2
        have sR : ∀ {s : T}, sub (L.take k) s → sub M (resZ fx b s) := by
          intro s hs
          cases s with
          | leaf _ => trivial
          | node _ _ _ => exact hsub _ hs
        have sl := sR hkid.1
        have sh := sR hkid.2
        simp only [List.cons_append, List.nil_append] at i1 i2
        simp [-OX_b, -List.map_take, s38_0, hkl, iaD_nds _ hxn, nd, i1, i2]
        have hI' := hI
        refine jn_intro (fun (kk : D → D → D → D → D → D → D → D → D → D → D → D → D → Store → Prop) => ∀ (l' h' : T) (y : D), sub M l' → sub M h' → mk v l' h' = resZ fx b (.node v l h) →
          kk (.b b) (.bx 0 0) (.bx 2 0) (.i .i64 fx) (.bx 3 0) (eInts false (0 :: 1 :: (L.take k).map fun s => code M (resZ fx b s)) (.tok tk)) (.bx S.length 0) (.i .i64 (code M l')) (.i .i64 (code M h')) (eNds nl' (nds L)) (.i .i64 L.length) (.i .i64 k) y (Ent.box (eNd (v, code L l, code L h)) :: S)) ?_ ?_
        · intro l' h' y kl kh hmk
          have hIp : MkI 3 (fun j => j = tk) M (Ent.box (eNd ((v : Int), code L l, code L h)) :: S) := by
            obtain ⟨n, o, u, a, c, d, e⟩ := hI
            refine ⟨n, o, u, sget_push a, c.push _, d, ?_⟩
            rcases e with e | ⟨iu, e1, e2, e3⟩
            · exact .inl e
            · exact .inr ⟨iu, e1, e2, sget_push e3⟩
          have ltk := sget_lt gt
          obtain ⟨S3, q3, I3, P3, T3, L3⟩ := v80 3 (fun j => j = tk) hM (by omega) v l' h' kl kh _ hIp (by
            rintro rfl
            obtain ⟨_, _, _, a, _⟩ := hI
            rw [gt] at a; cases a) (fun j hj => by have hj' : j = tk := hj; simp; omega)
          rw [hmk] at q3 I3
          have t3 := T3 tk _ rfl (sget_push gt)
          obtain ⟨N3, c3, z3⟩ := addT_ext hM (v := v) kl kh
          have s3 := sub_addT (v := v) (h := h') kl
          rw [hmk] at N3 c3 z3 s3
          generalize addT M (resZ fx b (.node v l h)) = M3 at *
          obtain ⟨N3, rfl⟩ := N3
          simp [-List.map_take, q3]
          have hlen : ((0 :: 1 :: (L.take k).map fun s => code M (resZ fx b s)).map fun n => [D.i .i64 n]).length = k + 2 := by simp; omega
          obtain ⟨t', S4, q4, l4, p4, m4, z4, zt, k4⟩ := app_liv (k := 1) (nl := false) (n' := false) (xs := (0 :: 1 :: (L.take k).map fun s => code M (resZ fx b s)).map fun n => [D.i .i64 n]) (ys := [[.i .i64 (code (M ++ N3) (resZ fx b (.node v l h)))]]) (o := .tok tk) (o' := .ro) (S := S3)
            (.inr ⟨rfl, tk, rfl, t3⟩) (by rw [hlen]; simp [maxLenD]; omega) (by simp)
          simp only [eInts]
          rw [q4]
          simp only [OX_some, wrapS (show Bd k by unfold Bd; omega)]
          have hmap : (0 :: 1 :: (L.take k).map fun s => code M (resZ fx b s)).map (fun n => [D.i .i64 n]) ++ [[D.i .i64 (code (M ++ N3) (resZ fx b (.node v l h)))]] = ([0, 1] ++ (L.take (k + 1)).map fun s => code (M ++ N3) (resZ fx b s)).map fun n => [D.i .i64 n] := by
            rw [take_snoc hx]
            have : (L.take k).map (fun s => code (M ++ N3) (resZ fx b s)) = (L.take k).map (fun s => code M (resZ fx b s)) := by
              apply List.map_congr_left
              intro s hs
              exact code_app N3 (hsub s hs)
            simp only [List.map_append, List.map_cons, List.map_nil, List.cons_append, List.nil_append, this]
          rw [hmap]
          have G : ∀ cs j, j ≠ 3 → sget S j = some (.box cs) → sget S4 j = some (.box cs) := fun cs j hj he => p4 _ _ (P3 _ _ hj (sget_push he))
          refine ⟨q - 1, by omega, k + 1, M ++ N3, t', _, by omega, G _ 0 (by omega) g0, G _ 2 (by omega) g2, ?_, c3, by omega, l4, ?_, rfl⟩
          · obtain ⟨n, o, u, a, c, d, e⟩ := I3
            refine ⟨n, o, u, p4 _ _ a, ?_, ?_, ?_⟩
            · rcases c with c | ⟨c1, tm, c2, c3⟩
              · exact .inl c
              · exact .inr ⟨c1, tm, c2, k4 _ _ c3 (fun t0 h0 h1 => by injection h0 with h0; exact d tm c2 (h1.trans h0.symm))⟩
            · intro tm ht hp
              rcases c with ⟨_, _, c⟩ | ⟨c1, tm', c2, c3⟩
              · rw [c] at ht; cases ht
              · have := sget_lt c3
                rw [c2] at ht; injection ht with ht
                have hp' : tm = t' := hp
                omega
            · rcases e with e | ⟨iu, e1, e2, e3⟩
              · exact .inl e
              · exact .inr ⟨iu, e1, fun hp => by have := sget_lt e3; have hp' : iu = t' := hp; omega, m4 _ _ e3⟩
          · intro s hs
            rw [take_snoc hx] at hs
            rcases List.mem_append.1 hs with hs | hs
            · exact sub_app N3 (hsub s hs)
            · rw [List.mem_singleton.1 hs]; exact s3
        · intro kk hK
          have mkk : ∀ x, mk v x x = x := fun x => by simp [mk]
          by_cases hvf : (v : Int) = fx
          · rw [if_pos hvf]
            cases b with
            | true => rw [if_pos rfl]; exact hK _ _ _ sh sh (by rw [mkk]; simp [resZ, hvf])
            | false => rw [if_neg (by simp)]; exact hK _ _ _ sl sl (by rw [mkk]; simp [resZ, hvf])
          · rw [if_neg hvf]
            exact hK _ _ _ sl sh (by simp [resZ, hvf])
    · have hk' : L.take k = L := List.take_of_length_le (by omega)
      rw [hk'] at hsub
      have sR : sub M (resZ fx b t) := by
        revert sL
        cases t with
        | leaf _ => intro _; trivial
        | node _ _ _ => intro h; exact hsub _ h
      have r1 := refs_get k (fun s => code M (resZ fx b s)) (f0 M) (f1 M) (s := t) (by rw [hk']; exact sL)
      have i1 := iaD_ints (nl := false) (o := .tok tk) (code_nonneg L t) r1
      simp only [List.cons_append, List.nil_append] at i1
      obtain ⟨n1, o1, u1, j1, j2, _⟩ := hI
      obtain ⟨n, hn2, e72⟩ := v72 nl n1 ord hM (by omega) (resZ fx b t) sR hn (by simp [maxLenD]; omega)
      rw [isoCall_strip] at e72
      have e72' := isoCall_strip (call dp) 72 [eRows nl ord, .sl 3 n1 ((nds M).map eNd) o1, .i .i64 (code M (resZ fx b t))]
      rw [show stripL [eRows nl ord, .sl 3 n1 ((nds M).map eNd) o1, .i .i64 (code M (resZ fx b t))] = stripL [eRows nl ord, eNds n1 (nds M), .i .i64 (code M (resZ fx b t))] from rfl, e72] at e72'
      simp [-List.map_take, s38_0, hkl, e38_r0, s38_r0, g0, j1, i1, e72', g2]
      rw [sget_sset _ (sget_lt g2)]
      simp
      exact ⟨n, by rw [hfx]; exact hn2, by rw [hfx]; rfl⟩)
  exact ⟨n, h1, hd⟩

end Go.Proofs.YtjlmeikcfdanmaaGreatDoor.DE.V

namespace Go.Proofs.YtjlmeikcfdanmaaGreatDoor.DE.V
open Go BT

open Classical in
theorem v93 (nl : Bool) (n v b : Nat) (h7 : n ≤ 7) (hv : v ≤ n) (hb : b < 2 ^ v) (f : (Nat → Bool) → Bool) :
    isoCall (call dp) 93 [eBools nl (tabOf n f), .i .i64 n, .i .i64 v, .i .i64 b] = some (.b (decide (∀ x, x < 2 ^ n → x % 2 ^ v = b → f (bitsA x) = f (bitsA b)))) := by
  have hp := pow7 h7
  have hvn : 2 ^ v ≤ 2 ^ n := Nat.pow_le_pow_right (by omega) hv
  have hbn : b < 2 ^ n := by omega
  obtain ⟨c, hc⟩ : ∃ c, c = decide (∀ x, x < 2 ^ n → x % 2 ^ v = b → f (bitsA x) = f (bitsA b)) := ⟨_, rfl⟩
  rw [← hc]
  apply i93 _ _ _ _ _ (by simp [noRefL, noRef]) rfl
  simp only [s93]
  let J : Nat → List D → Store → Prop := fun q fr S => ∃ k a8 a13, k + q = 2 ^ n ∧ (∀ x, x < k → x % 2 ^ v = b → f (bitsA x) = f (bitsA b)) ∧
    fr = mkf 33 [(0, eBools nl (tabOf n f)), (1, .i .i64 n), (2, .i .i64 v), (3, .i .i64 b), (8, a8), (9, .i .i64 k), (13, a13)]
  refine W_loop J ?_ (2 ^ n) _ _ ⟨0, _, _, by simp, fun x h => by omega, rfl⟩
  rintro q fr S ⟨k, a8, a13, hk, hx, rfl⟩
  rw [← wp_W, e93_0]
  have hs1 := shl1 (n := n) (by omega)
  have hs2 := shl1 (n := v) (by omega)
  have hrem := remN (a := k) (b := 2 ^ v) (Nat.two_pow_pos _)
  by_cases h : k < 2 ^ n
  · have h' : (k : Int) < ((2 ^ n : Nat) : Int) := by omega
    have ih : ∀ d, (k % 2 ^ v = b → f (bitsA k) = f (bitsA b)) → ∃ m', m' < q ∧ J m' (mkf 33 [(0, eBools nl (tabOf n f)), (1, .i .i64 n), (2, .i .i64 v), (3, .i .i64 b), (8, a8), (9, .i .i64 ((k + 1 : Nat) : Int)), (13, .top)]) d := by
      intro d hd
      refine ⟨q - 1, by omega, k + 1, _, _, by omega, fun x hx1 hx2 => ?_, rfl⟩
      by_cases e : x = k
      · subst e; exact hd hx2
      · exact hx x (by omega) hx2
    by_cases hm : k % 2 ^ v = b
    · have hm' : ((k % 2 ^ v : Nat) : Int) = (b : Int) := by omega
      simp only [s93_0, hs1, OX_some, bin_lss, h', decide_true, WB_true, OX_b, if_true, hs2, hrem, bin_eql, hm', gsel_tt, ia_bools (tabOf_get f h), ia_bools (tabOf_get f hbn), ldD_el, rdK_one, List.getElem?_cons_zero, bin_bneq]
      cases h1 : f (bitsA k) <;> cases h2 : f (bitsA b)
      · simp [wrapS (show Bd k by unfold Bd; omega)]
        exact ih S (fun _ => by rw [h1, h2])
      · have : c = false := by rw [hc]; exact decide_eq_false fun hh => by have := hh k h hm; rw [h1, h2] at this; cases this
        simp [this]
      · have : c = false := by rw [hc]; exact decide_eq_false fun hh => by have := hh k h hm; rw [h1, h2] at this; cases this
        simp [this]
      · simp [wrapS (show Bd k by unfold Bd; omega)]
        exact ih S (fun _ => by rw [h1, h2])
    · have hm' : ¬ ((k % 2 ^ v : Nat) : Int) = (b : Int) := by omega
      simp only [s93_0, hs1, OX_some, bin_lss, h', decide_true, WB_true, OX_b, if_true, hs2, hrem, bin_eql, hm', decide_false]
      simp [wrapS (show Bd k by unfold Bd; omega)]
      exact ih S (fun e => absurd e hm)
  · have h' : ¬ (k : Int) < ((2 ^ n : Nat) : Int) := by omega
    have : c = true := by rw [hc]; exact decide_eq_true fun x h1 h2 => hx x (by omega) h2
    simp [-Int.natCast_pow, s93_0, hs1, h', e93_r0, s93_r0, this]

/-- One of the parts that the construction comes to. -/
def Part (n : Nat) (f : (Nat → Bool) → Bool) (s : T) : Prop := ∃ v b, v ≤ n ∧ b < 2 ^ v ∧ s = subT n v b f

theorem parts_len {n : Nat} (h7 : n ≤ 7) {f : (Nat → Bool) → Bool} {M : List T} (hM : Cl M) (h : ∀ s, s ∈ M → Part n f s) : M.length ≤ 1024 := by
  have := nodup_len (L := (List.range 8).flatMap fun v => (List.range 128).map fun b => subT n v b f) (Cl_nodup hM) (by
    intro s hs
    obtain ⟨v, b, hv, hb, rfl⟩ := h s hs
    have : 2 ^ v ≤ 128 := pow7 (by omega)
    exact List.mem_flatMap.2 ⟨v, List.mem_range.2 (by omega), List.mem_map.2 ⟨b, List.mem_range.2 (by omega), rfl⟩⟩)
  refine Nat.le_trans this ?_
  simp [List.length_flatMap]
  decide

theorem v53_leaf (nl : Bool) (n : Nat) (h7 : n ≤ 7) (f : (Nat → Bool) → Bool) (hd : Dep n 0 f) (v b : Nat) (M : List T) (m : Bool) (o : Own) (S : Store) (hv : v ≤ n) (hb : b < 2 ^ v)
    (hc : ∀ x, x < 2 ^ n → x % 2 ^ v = b → f (bitsA x) = f (bitsA b)) :
    call dp 53 [eBools nl (tabOf n f), .i .i64 n, .i .i64 v, .i .i64 b, .sl 3 m ((nds M).map eNd) o] S =
        some (.tup [.i .i64 (code (post (subT n v b f) M) (subT n v b f)), .sl 3 m ((nds (post (subT n v b f) M)).map eNd) o], S) := by
  have hbn : b < 2 ^ n := Nat.lt_of_lt_of_le hb (Nat.pow_le_pow_right (by omega) hv)
  have hu : subT n v b f = .leaf (f (bitsA b)) := subT_const hd hv ((const_iff hd hv hb).1 hc)
  rw [hu]
  let P : D → Store → Prop := fun r S' => r = .tup [.i .i64 (code (post (.leaf (f (bitsA b))) M) (.leaf (f (bitsA b)))), .sl 3 m ((nds (post (.leaf (f (bitsA b))) M)).map eNd) o] ∧ S' = S
  obtain ⟨r, S', e, rfl, rfl⟩ := f53 (eBools nl (tabOf n f)) (.i .i64 n) (.i .i64 v) (.i .i64 b) (.sl 3 m ((nds M).map eNd) o) S P (by
    have e93 := v93 nl n v b h7 hv hb f
    rw [decide_eq_true hc] at e93
    cases hf : f (bitsA b) with
    | true => simp [s53, e93, ia_bools (tabOf_get f hbn), hf]; exact ⟨by rw [hf]; rfl, rfl⟩
    | false => simp [s53, e93, ia_bools (tabOf_get f hbn), hf]; exact ⟨by rw [hf]; rfl, rfl⟩)
  exact e

theorem v53 (nl : Bool) (n : Nat) (h7 : n ≤ 7) (f : (Nat → Bool) → Bool) (hd : Dep n 0 f) : ∀ (k v b : Nat) (M : List T) (m : Bool) (o : Own) (S : Store), n - v = k → v ≤ n → b < 2 ^ v → Cl M → (∀ s, s ∈ M → Part n f s) → LivC S m M.length o →
    ∃ m' o' S', call dp 53 [eBools nl (tabOf n f), .i .i64 n, .i .i64 v, .i .i64 b, .sl 3 m ((nds M).map eNd) o] S =
        some (.tup [.i .i64 (code (post (subT n v b f) M) (subT n v b f)), .sl 3 m' ((nds (post (subT n v b f) M)).map eNd) o'], S') ∧
      LivC S' m' (post (subT n v b f) M).length o' ∧ (∀ s, s ∈ post (subT n v b f) M → Part n f s) ∧ Pres S S' := by
  intro k
  have leafc : ∀ (v b : Nat) (M : List T) (m : Bool) (o : Own) (S : Store), v ≤ n → b < 2 ^ v → (∀ s, s ∈ M → Part n f s) → LivC S m M.length o → (∀ x, x < 2 ^ n → x % 2 ^ v = b → f (bitsA x) = f (bitsA b)) →
      ∃ m' o' S', call dp 53 [eBools nl (tabOf n f), .i .i64 n, .i .i64 v, .i .i64 b, .sl 3 m ((nds M).map eNd) o] S =
        some (.tup [.i .i64 (code (post (subT n v b f) M) (subT n v b f)), .sl 3 m' ((nds (post (subT n v b f) M)).map eNd) o'], S') ∧
      LivC S' m' (post (subT n v b f) M).length o' ∧ (∀ s, s ∈ post (subT n v b f) M → Part n f s) ∧ Pres S S' := by
    intro v b M m o S hv hb hP hl hc
    have e := v53_leaf nl n h7 f hd v b M m o S hv hb hc
    have hu : subT n v b f = .leaf (f (bitsA b)) := subT_const hd hv ((const_iff hd hv hb).1 hc)
    have hp : post (subT n v b f) M = M := by rw [hu]; rfl
    exact ⟨m, o, S, e, by rw [hp]; exact hl, by rw [hp]; exact hP, Pres.refl _⟩
  induction k with
  | zero =>
    intro v b M m o S hk hv hb hM hP hl
    have : v = n := by omega
    subst this
    exact leafc v b M m o S hv hb hP hl (fun x h1 h2 => by rw [Nat.mod_eq_of_lt h1] at h2; rw [h2])
  | succ k ih =>
    intro v b M m o S hk hv hb hM hP hl
    by_cases hc : ∀ x, x < 2 ^ n → x % 2 ^ v = b → f (bitsA x) = f (bitsA b)
    · exact leafc v b M m o S hv hb hP hl hc
    have hvn : v < n := by omega
    have hp7 := pow7 h7
    have hpv : 2 ^ v ≤ 128 := pow7 (by omega)
    have hstep := subT_step (f := f) hvn hb
    have hb1 : b < 2 ^ (v + 1) := by rw [Nat.pow_succ]; omega
    have hb2 : b + 2 ^ v < 2 ^ (v + 1) := by rw [Nat.pow_succ]; omega
    have e93 := v93 nl n v b h7 hv hb f
    rw [decide_eq_false hc] at e93
    obtain ⟨m1, o1, S1, q1, l1, p1, r1⟩ := ih (v + 1) b M m o S (by omega) (by omega) hb1 hM hP hl
    obtain ⟨N1, n1, c1, s1, _⟩ := post_facts hM (subT n (v + 1) b f)
    obtain ⟨m2, o2, S2, q2, l2, p2, r2⟩ := ih (v + 1) (b + 2 ^ v) (post (subT n (v + 1) b f) M) m1 o1 S1 (by omega) (by omega) hb2 c1 p1 l1
    obtain ⟨N2, n2, c2, s2, _⟩ := post_facts c1 (subT n (v + 1) (b + 2 ^ v) f)
    have hz2 := parts_len h7 c2 p2
    generalize hu0 : subT n (v + 1) b f = u0 at *
    generalize hu1 : subT n (v + 1) (b + 2 ^ v) f = u1 at *
    rw [hstep]
    have hc0 : code (post u0 M) u0 = code (post u1 (post u0 M)) u0 := by rw [n2, code_app N2 s1]
    have s0 : sub (post u1 (post u0 M)) u0 := by rw [n2]; exact sub_app N2 s1
    have hpart : Part n f (mk v u0 u1) := by rw [← hstep]; exact ⟨v, b, hv, hb, rfl⟩
    have hsh := shl1 (n := v) (by omega)
    rw [hc0] at q1
    let P : D → Store → Prop := fun r S' => ∃ m' o', r = .tup [.i .i64 (code (post (mk v u0 u1) M) (mk v u0 u1)), .sl 3 m' ((nds (post (mk v u0 u1) M)).map eNd) o'] ∧ LivC S' m' (post (mk v u0 u1) M).length o' ∧ (∀ s, s ∈ post (mk v u0 u1) M → Part n f s) ∧ Pres S S'
    obtain ⟨r, S', e, m', o', rfl, h⟩ := f53 (eBools nl (tabOf n f)) (.i .i64 n) (.i .i64 v) (.i .i64 b) (.sl 3 m ((nds M).map eNd) o) S P (by
      have w1 : IntKind.i64.wrap ((v : Int) + 1) = ((v + 1 : Nat) : Int) := wrapS (by unfold Bd; omega)
      have w2 : IntKind.i64.wrap ((b : Int) + ((2 ^ v : Nat) : Int)) = ((b + 2 ^ v : Nat) : Int) := by
        generalize 2 ^ v = p at *
        rw [wrap64 ⟨by omega, by omega⟩]; omega
      simp [-Int.natCast_pow, -Int.natCast_add, s53, e93, w1, q1, hsh, w2, q2, bldV]
      by_cases e01 : u0 = u1
      · subst e01
        simp
        have hpm : post (mk v u0 u0) M = post u0 (post u0 M) := post_mk_eq hM v u0
        have hmk : mk v u0 u0 = u0 := by simp [mk]
        refine ⟨m2, o2, ?_, by rw [hpm]; exact l2, by rw [hpm]; exact p2, r1.trans r2⟩
        rw [hpm, hmk]
      · have hne : ¬ code (post u1 (post u0 M)) u0 = code (post u1 (post u0 M)) u1 := fun e => e01 (code_inj s0 s2 e)
        have hmk : mk v u0 u1 = .node v u0 u1 := by simp [mk, e01]
        have hpm : post (mk v u0 u1) M = if T.node v u0 u1 ∈ post u1 (post u0 M) then post u1 (post u0 M) else post u1 (post u0 M) ++ [.node v u0 u1] := by rw [hmk]; exact post_mk_ne hM e01
        simp [hne]
        rw [show [D.i .i64 (v : Int), .i .i64 (code (post u1 (post u0 M)) u0), .i .i64 (code (post u1 (post u0 M)) u1)] = eNd (nd (post u1 (post u0 M)) (.node v u0 u1)) from rfl]
        rw [hmk] at hpart
        have hkid : kids (post u1 (post u0 M)) (.node v u0 u1) := ⟨s0, s2⟩
        have hP : ∀ r S', P r S' = ∃ m' o', r = .tup [.i .i64 (code (post (mk v u0 u1) M) (mk v u0 u1)), .sl 3 m' ((nds (post (mk v u0 u1) M)).map eNd) o'] ∧ LivC S' m' (post (mk v u0 u1) M).length o' ∧ (∀ s, s ∈ post (mk v u0 u1) M → Part n f s) ∧ Pres S S' := fun _ _ => rfl
        rw [hmk] at hpm
        rw [hmk, hpm] at hP
        clear_value P
        generalize post u1 (post u0 M) = M2 at *
        have hlen : ((nds M2).map eNd).length = M2.length := by rw [List.length_map, nds_len]
        let J : Nat → List D → Store → Prop := fun q fr S' => ∃ k a10 a11 a62, k + q = M2.length ∧ nd M2 (.node v u0 u1) ∉ (nds M2).take k ∧ S' = Ent.box (eNd (nd M2 (.node v u0 u1))) :: S2 ∧
          fr = mkf 81 [(4, .sl 3 m2 ((nds M2).map eNd) o2), (10, a10), (11, a11), (14, .bx S2.length 0), (15, .i .i64 k), (62, a62)]
        refine W_loop J ?_ M2.length _ _ ⟨0, _, _, _, by simp, by simp, rfl, rfl⟩
        rintro q fr S' ⟨j, a10, a11, a62, hj, hnot, rfl, rfl⟩
        rw [← wp_W, e53_0]
        by_cases hjl : j < M2.length
        · obtain ⟨x, hx⟩ : ∃ x, M2[j]? = some x := ⟨_, List.getElem?_eq_getElem (by omega)⟩
          have hxn : (nds M2)[j]? = some (nd M2 x) := by simp [nds, hx]
          have hia : iaD 3 (.sl 3 m2 ((nds M2).map eNd) o2) (.i .i64 (j : Int)) = some (.el (eNd (nd M2 x)) 0) := by simp [iaD, hxn]
          simp [s53_0, nds_len, hjl, hia]
          by_cases e : nd M2 x = nd M2 (.node v u0 u1)
          · have hxm := List.mem_of_getElem? hx
            have hxe := nd_inj (Cl_kids c2 x hxm) hkid e
            subst hxe
            have hcg := code_get c2 hx
            simp [wrap64 (n := (j : Int) + 2) ⟨by omega, by omega⟩]
            rw [hP]
            simp only [hxm, if_true]
            exact ⟨m2, o2, by rw [hcg], l2.push _, p2, (r1.trans r2).trans (Pres.push _ _)⟩
          · simp [e, wrapS (show Bd j by unfold Bd; omega)]
            refine ⟨q - 1, by omega, j + 1, _, _, _, by omega, ?_, rfl, rfl⟩
            rw [take_snoc hxn]
            simp only [List.mem_append, List.mem_singleton, not_or]
            exact ⟨hnot, fun h => e h.symm⟩
        · have hj' : (nds M2).take j = nds M2 := List.take_of_length_le (by rw [nds_len]; omega)
          rw [hj'] at hnot
          have hnm : T.node v u0 u1 ∉ M2 := fun h => hnot ((nds_mem c2 hkid).2 h)
          have hcl : Cl (M2 ++ [.node v u0 u1]) := Cl_snoc.2 ⟨c2, hnm, hkid⟩
          obtain ⟨t, S4, q4, l4, p4⟩ := app_livC (k := 3) (n' := false) (xs := (nds M2).map eNd) (ys := [eNd (nd M2 (.node v u0 u1))]) (o' := .ro) (S := Ent.box (eNd (nd M2 (.node v u0 u1))) :: S2) (by rw [hlen]; exact l2.push _) (by rw [hlen]; simp [maxLenD]; omega) (by simp)
          have hX : (nds M2).map eNd ++ [eNd (nd M2 (.node v u0 u1))] = (nds (M2 ++ [.node v u0 u1])).map eNd := by rw [nds_snoc hcl, List.map_append]; rfl
          rw [hX] at q4
          simp [s53_0, nds_len, hjl, e53_r0, s53_r0, q4, wrap64 (n := (M2.length : Int) + 2) ⟨by omega, by omega⟩]
          rw [hP]
          simp only [hnm, if_false]
          refine ⟨false, .tok t, ?_, .tok l4, ?_, ((r1.trans r2).trans (Pres.push _ _)).trans p4⟩
          · simp only [code]
            rw [pos_new [] hnm]
          · intro s hs
            rcases List.mem_append.1 hs with hs | hs
            · exact p2 s hs
            · rw [List.mem_singleton.1 hs]; exact hpart)
    exact ⟨m', o', S', e, h⟩

theorem v18 (nl nl' : Bool) (ord : List Row) (h7 : ord.length ≤ 7) (f : (Nat → Bool) → Bool) (hd : Dep ord.length 0 f) :
    ∃ m, isoCall (call dp) 18 [eRows nl ord, eBools nl' (tabOf ord.length f)] = some (eT nl m ord (treeOf ord.length f)) := by
  obtain ⟨m, o, S', q, l, _, p⟩ := v53 nl' ord.length h7 f hd ord.length 0 0 [] false .cap0 [Ent.box [.sl 2 true [] .ro, .sl 3 true [] .ro, .i .i64 0]] (by omega) (by omega) (by simp) Cl_nil (by simp) (.inr ⟨rfl, rfl, rfl⟩)
  rw [subT_zero] at q
  have hb := p 0 _ (show sget [Ent.box [.sl 2 true [] .ro, .sl 3 true [] .ro, .i .i64 0]] 0 = some _ from rfl)
  refine ⟨m, ?_⟩
  apply i18 _ _ _ (by simp [noRefL]) (by simp [eT])
  have q' : call dp 53 [eBools nl' (tabOf ord.length f), .i .i64 ord.length, .i .i64 0, .i .i64 0, .sl 3 false [] .cap0] [Ent.box [.sl 2 true [] .ro, .sl 3 true [] .ro, .i .i64 0]] = _ := q
  simp [s18, q', bldV, hb]
  rw [sget_sset _ (sget_lt hb)]
  simp
  rfl

end Go.Proofs.YtjlmeikcfdanmaaGreatDoor.DE.V

namespace Go.Proofs.YtjlmeikcfdanmaaGreatDoor.DE
open Go

def awk (n : Nat) : Bool := match callN dp n 10 [] [] with
  | some (.b true, _) => true
  | _ => false

theorem awk_ok : awk 60 = true := by kernel_rfl

theorem v10 : isoCall (call dp) 10 [] = some (.b true) := by
  have h : ∃ S, callN dp 60 10 [] [] = some (.b true, S) := by
    have := awk_ok
    unfold awk at this
    split at this
    · rename_i S h; exact ⟨S, h⟩
    · cases this
  obtain ⟨S, h⟩ := h
  have := (call_iff 10 [] [] _).2 ⟨60, h⟩
  simp only [isoCall, stripL, noRefL, if_true, this]
  rfl

end Go.Proofs.YtjlmeikcfdanmaaGreatDoor.DE

namespace Go.Proofs.YtjlmeikcfdanmaaGreatDoor.DE.V
open Go BT
set_option maxRecDepth 20000

open Classical in
theorem sameT9 (na na' nb nb' : Bool) (o : List Row) (t s : T) (h7 : o.length ≤ 7) (ws : Wf o.length s) : isoCall (call dp) 17 [eT na na' o t, eT nb nb' o s] = some (.b (decide (t = s))) := by
  have z2 := small h7 ws
  have e := v17 na na' nb nb' o o (nds (post t [])) (nds (post s [])) (code (post t []) t) (code (post s []) s) (by rw [nds_len]; unfold Bd; omega) (by unfold Bd; omega)
  refine e.trans ?_
  congr 2
  rw [decide_eq_decide]
  constructor
  · rintro ⟨_, h2, h1⟩
    have := nds_inj (post_nil t).1 (post_nil s).1 h2
    rw [← this] at h1
    exact code_inj (post_nil t).2.1 (this ▸ (post_nil s).2.1) h1
  · rintro rfl
    exact ⟨rfl, rfl, rfl⟩

theorem sameZ9 : isoCall (call dp) 17 [zB, zB] = some (.b true) := by
  have := v17 true true true true [] [] [] [] 0 0 (by unfold Bd; simp) (by unfold Bd; simp)
  simp only [and_self, decide_true] at this
  exact this

theorem resT9 (nl nl' : Bool) (o : List Row) (r : Row) (b : Bool) (t : T) (ho : OrdOk o) (h7 : o.length ≤ 7) (wt : Wf o.length t) (hn : nlOk nl o) :
    ∃ n : Bool, isoCall (call dp) 38 [eT nl nl' o t, .agg (eRow r), .b b] = some (eT nl n o (resZ (ixOf r o) b t)) := by
  obtain ⟨n, _, h⟩ := v38 nl nl' o _ _ r b t (VT_eT ho h7 wt) hn
  exact ⟨n, h⟩

theorem resZ_wf9 {n : Nat} {fx : Int} {b : Bool} : ∀ {t : T}, Wf n t → Wf n (resZ fx b t) := by
  intro t w
  rcases Int.lt_or_le fx 0 with h | h
  · rw [resZ_neg b h w]; exact w
  · obtain ⟨v, rfl⟩ : ∃ v : Nat, fx = v := ⟨fx.toNat, by omega⟩
    rw [resZ_nat]; exact (resT_spec w).1

open Classical in
theorem v38_bad (nl nl' : Bool) (ord : List Row) (ns : List Nd) (root : Int) (r : Row) (b : Bool) (hn : nl = true → ord = []) (hb : Bd (ns.length + 2)) (hb' : Bd ord.length) (hv : ¬ VB ord ns root) :
    isoCall (call dp) 38 [eB nl nl' ord ns root, .agg (eRow r), .b b] = some zB := by
  have e33 := v33 nl nl' ord ns root hn hb hb'
  simp only [hv, decide_false, eB] at e33
  apply i38 _ _ _ _ (by simp [noRefL]) (by simp [zB])
  simp [s38, e33]
  rfl

theorem v27 (n m : Bool) (o p : List Row) (hb : Bd p.length) : isoCall (call dp) 27 [eRows n o, eRows m p] = some (.b (decide (o = p))) := by
  apply i27 _ _ _ (by simp [noRefL]) rfl
  simp [s27, v52 n m o p hb]

theorem ixOf_get {r : Row} : ∀ {l : List Row} {v : Nat}, ixOf r l = v → l[v]? = some r
  | [], v, h => by simp [ixOf] at h
  | x :: l, v, h => by
    simp only [ixOf] at h
    split at h
    · rename_i e
      have : v = 0 := by omega
      subst this; simp [e]
    · split at h
      · omega
      · obtain ⟨w, rfl⟩ : ∃ w, v = w + 1 := ⟨v - 1, by omega⟩
        simpa using ixOf_get (l := l) (v := w) (by omega)

theorem Asc_len {l ord : List Row} (h : Asc l) (hm : ∀ r, r ∈ l → r ∈ ord) : l.length ≤ ord.length := by
  have hnd : l.Nodup := List.Pairwise.imp (fun {a b} hab e => by subst e; rw [swo.irrefl] at hab; cases hab) h
  exact hnd.length_le_of_subset hm

open Classical in
theorem law9 (n m : Bool) (o : List Row) (x : List Nd) (r : Int) (id : Row) (val : Bool) (n3 : Bool) (rs : List Row)
    (g : n = true → o = []) (_ : m = true → x = []) (_ : ∀ a ∈ o, okRow a) (_ : ∀ a ∈ x, okNd64 a) (_ : in64 r) (_ : okRow id) (_ : n3 = true → rs = []) (_ : ∀ a ∈ rs, okRow a) :
    ∃ S', call dp 9 [eB n m o x r, .agg (eRow id), .b val, eRows n3 rs] [] = some (.b true, S') := by
  obtain ⟨r, S', e, rfl⟩ := f9 (eB n m o x r) (.agg (eRow id)) (.b val) (eRows n3 rs) [] (fun d _ => d = .b true) (by
    have a1 := v11 n m o x r
    simp only [eB] at a1
    by_cases b1 : o.length ≤ 7 ∧ x.length ≤ 40
    case neg =>
      have : (decide (o.length ≤ 7) && decide (x.length ≤ 40)) = false := by rw [← Bool.decide_and]; exact decide_eq_false b1
      rw [this] at a1
      simp [-OX_b, s9, v10, a1]
    simp only [b1, decide_true, Bool.and_true] at a1
    obtain ⟨b1, c1⟩ := b1
    by_cases b3 : rs.length ≤ 12
    case neg =>
      have : (12 : Int) < rs.length := by omega
      simp [-OX_b, s9, v10, a1, this]
    have b3' : ¬ (12 : Int) < rs.length := by omega
    have e24 := v24 n m o x r (by unfold Bd; omega) (by unfold Bd; omega)
    have hzz : D.agg [.sl 2 true [] .ro, .sl 3 true [] .ro, .i .i64 0] = D.agg [eRows true [], eNds true [], .i .i64 0] := rfl
    by_cases hva : VB o x r
    case neg =>
      have R := v38_bad n m o x r id val g (by unfold Bd; omega) (by unfold Bd; omega) hva
      have E := v37_bad n m n3 o rs x r g (by unfold Bd; omega) (by unfold Bd; omega) hva
      have P := v39_bad n m o x r g (by unfold Bd; omega) (by unfold Bd; omega) hva
      have hZ := sameZ9
      rw [decide_eq_false hva] at e24
      simp only [zB, eB] at R E P e24 hZ
      simp [-OX_b, s9, v10, a1, b3', R, e24, bldV, hzz, hZ, E, P]
    obtain ⟨t, TT⟩ := VB_VT.1 hva
    obtain ⟨⟨hoo, _⟩, wt, rfl, rfl, _⟩ := TT
    rw [nds_len] at c1
    obtain ⟨cL, sL, wL⟩ := post_nil t
    obtain ⟨q1, R⟩ := resT9 n m o id val t hoo b1 wt g
    obtain ⟨q2, RT⟩ := resT9 n m o id true t hoo b1 wt g
    obtain ⟨q3, RF⟩ := resT9 n m o id false t hoo b1 wt g
    have e25 := v25 n m o t cL (wL _ wt) b1 (by omega) sL
    have e37 := v37 n m n3 o rs t g b1 hoo wt (by unfold Bd; omega)
    obtain ⟨s, sm, e39, hs1, hs2, hs3⟩ := v39 n m o t g b1 hoo wt (by omega)
    obtain ⟨y, hy1, hy2, e41⟩ := v41 n n3 o rs b1 (by unfold Bd; omega)
    have hd : Dep o.length 0 (fn t) := fun a b h => fn_agree wt fun i _ hi => h i (Nat.zero_le _) hi
    obtain ⟨s', e42, hs1', hs3'⟩ := v42 n false o b1 (fn t) hd
    have hss : s = s' := Asc_unique hs1 hs1' fun r => by
      rw [hs3, hs3']
      constructor
      · rintro ⟨i, h1, h2⟩; exact ⟨i, h1, (var_iff wt i).1 h2⟩
      · rintro ⟨i, h1, h2⟩; exact ⟨i, h1, (var_iff wt i).2 h2⟩
    have hsl : s.length ≤ o.length := Asc_len hs1 fun r hr => by
      obtain ⟨i, h1, _⟩ := (hs3 r).1 hr
      exact List.mem_of_getElem? h1
    have e27 := v27 sm false s s (by unfold Bd; omega)
    obtain ⟨s2, e43, hs12, hs32⟩ := v43 sm s (by omega)
    have hs2e : s2 = s := Asc_unique hs12 hs1 hs32
    rw [← hss] at e42
    rw [hs2e] at e43
    simp only [decide_true] at e27
    have e15 := v15 sm s id (by unfold Bd; omega)
    have hev : fn t (bitsA y) = fn t (asg o rs) := hd _ _ fun i _ hi => hy2 i hi
    have hia := ia_bools (nl := false) (tabOf_get (fn t) hy1)
    rw [hev] at hia
    have IX := v15 n o id (by unfold Bd; omega)
    have hTF := sameT9 n q2 n q3 o (resZ (ixOf id o) true t) (resZ (ixOf id o) false t) b1 (resZ_wf9 wt)
    have hfin : (!decide (resZ (ixOf id o) true t = resZ (ixOf id o) false t)) = decide (0 ≤ ixOf id s) := by
      by_cases hix : ixOf id o < 0
      · rw [resZ_neg true hix wt, resZ_neg false hix wt]
        have : ¬ 0 ≤ ixOf id s := by
          rw [ixOf_mem, hs3]
          rintro ⟨i, h1, _⟩
          have := ixOf_mem.2 (List.mem_of_getElem? h1)
          omega
        simp [this]
      · obtain ⟨v, hv⟩ : ∃ v : Nat, ixOf id o = v := ⟨(ixOf id o).toNat, by omega⟩
        have hvo := ixOf_get hv
        have hvl := (List.getElem?_eq_some_iff.1 hvo).1
        rw [hv, resZ_nat, resZ_nat]
        have k1 : (resT v true t = resT v false t) ↔ ¬ v ∈ vars t := by
          rw [var_iff wt, Classical.not_not]
          constructor
          · intro h a
            rw [← (resT_spec (v := v) (b := false) wt).2.2, ← (resT_spec (v := v) (b := true) wt).2.2, h]
          · intro h
            exact canon' (resT_spec wt).1 (resT_spec wt).1 fun a => by rw [(resT_spec wt).2.2, (resT_spec wt).2.2, h]
        have k2 : 0 ≤ ixOf id s ↔ v ∈ vars t := by
          rw [ixOf_mem, hs3]
          constructor
          · rintro ⟨i, h1, h2⟩
            have : i = v := by
              have hi := (List.getElem?_eq_some_iff.1 h1).1
              exact (List.getElem?_inj hi hoo.2).1 (h1.trans hvo.symm)
            rwa [← this]
          · intro h; exact ⟨v, hvo, h⟩
        by_cases hvv : v ∈ vars t
        · have : ¬ resT v true t = resT v false t := fun h => k1.1 h hvv
          simp [this, k2.2 hvv]
        · have h1 := k1.2 hvv
          have : ¬ 0 ≤ ixOf id s := fun h => hvv (k2.1 h)
          simp [h1, this]
    rw [decide_eq_true hva] at e24
    let P : (D → D → D → D → D → D → D → D → D → Store → Prop) → Prop := fun k => ∀ (y1 y2 y3 : D) (m' : Bool), k y1 (eRows n3 rs) (.bx 0 0) (.bx 1 0) (.bx 2 0) (eBools false (tabOf o.length (fn t))) (.bx 3 0) y2 y3
      [.box [eRows n o, eNds m' (nds (post (resZ (ixOf id o) val t) [])), .i .i64 (code (post (resZ (ixOf id o) val t) []) (resZ (ixOf id o) val t))], .box [eRows n o, eNds q1 (nds (post (resZ (ixOf id o) val t) [])), .i .i64 (code (post (resZ (ixOf id o) val t) []) (resZ (ixOf id o) val t))],
        .box (eRow id), .box [eRows n o, eNds m (nds (post t [])), .i .i64 (code (post t []) t)]]
    have tail : ∀ (K : D → D → D → D → D → D → D → D → D → Store → Prop) (X : (D → D → D → D → D → D → D → D → D → Store → Prop) → Prop), (∀ k, P k → X k) → P K → jn K X := fun K X h1 h2 => jn_intro P h2 h1
    simp only [eB, eT] at R RT RF e24 e25 e37 e39 hTF
    simp [-OX_b, s9, v10, a1, b3', R, e24, e25, IX]
    refine tail _ _ ?_ ?_
    · intro k hk
      by_cases hix : ixOf id o < 0
      · have h0 : ¬ 0 ≤ ixOf id o := by omega
        simp [-OX_b, h0]
        have := hk (.b val) (.i .i64 (ixOf id o)) (.b false) m
        rw [resZ_neg val hix wt] at this ⊢
        exact this
      · obtain ⟨v, hv⟩ : ∃ v : Nat, ixOf id o = v := ⟨(ixOf id o).toNat, by omega⟩
        have hvo := ixOf_get hv
        have hvl := (List.getElem?_eq_some_iff.1 hvo).1
        have e40 := v40 false o.length v val b1 hvl (fn t) hd
        obtain ⟨m', e18⟩ := v18 n false o b1 (fun s => fn t (upd s v val)) (dep_upd' hd val)
        have htr : treeOf o.length (fun s => fn t (upd s v val)) = resT v val t := canon' (treeOf_wf _ _) (resT_spec wt).1 fun a => by rw [treeOf_fn (dep_upd' hd val), (resT_spec wt).2.2]
        rw [htr] at e18
        simp only [eT, eB] at e18
        have h0 : 0 ≤ ixOf id o := by omega
        have := hk .top .top .top m'
        rw [hv, resZ_nat] at this ⊢
        simp [-OX_b, e40, e18]
        exact this
    · intro y1 y2 y3 m'
      have e17 := sameT9 n q1 n m' o (resZ (ixOf id o) val t) (resZ (ixOf id o) val t) b1 (resZ_wf9 wt)
      simp only [decide_true, eT, eB] at e17
      simp [-OX_b, e39, e17, e37, e41, hia, e42, e27, RT, RF, hTF, e15, hfin, e43])
  exact ⟨S', e⟩

end Go.Proofs.YtjlmeikcfdanmaaGreatDoor.DE.V
