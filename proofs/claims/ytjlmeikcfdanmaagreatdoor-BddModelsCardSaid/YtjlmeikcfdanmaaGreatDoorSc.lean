/-
  THE FUNCTIONS' CODE IN THE STYLE OF WHAT COMES NEXT. PRINTED BY tools/shallow.py of this repository; each text is checked against the code.
-/
import Derived.Test.YtjlmeikcfdanmaaGreatDoorDe24
import Derived.Test.YtjlmeikcfdanmaaGreatDoorDp
import Derived.KernelRfl
namespace Go.Proofs.YtjlmeikcfdanmaaGreatDoor.DE
open Go

/-! lineage/bdd.Not -/
def s23_r0 (cf : CallF) (a2 : D) (a3 : D) (a4 : D) (a20 : D) (a21 : D) (a22 : D) (a23 : D) (S : Store) (Q : Ex → List D → Store → Prop) : Prop :=
  OX (ldD S 3 true a4) fun x1 =>
  OX (stD S 3 true a2 x1) fun S3 =>
  Q .ret (mkf 44 [(2, a2), (3, .top), (4, .top), (20, .top), (21, .top), (22, .top), (23, .top)]) S3
theorem e23_r0 (cf : CallF) (a2 : D) (a3 : D) (a4 : D) (a20 : D) (a21 : D) (a22 : D) (a23 : D) (S : Store) (Q : Ex → List D → Store → Prop) : wp cf c23_r0 (mkf 44 [(2, a2), (3, a3), (4, a4), (20, a20), (21, a21), (22, a22), (23, a23)]) S Q = s23_r0 cf a2 a3 a4 a20 a21 a22 a23 S Q := wpS_of (by kernel_rfl)
def s23_0 (cf : CallF) (a2 : D) (a3 : D) (a4 : D) (a20 : D) (a21 : D) (a22 : D) (a23 : D) (S : Store) (Q : Ex → List D → Store → Prop) : Prop :=
  OX (binD .lss .num a22 a21) fun x4 =>
  WB x4
  (OX (iaD 3 a20 a22) fun x5 =>
  OX (ldD S 3 true x5) fun x6 =>
  al [.i .i64 0, .i .i64 0, .i .i64 0] S fun x7 S8 =>
  OX (stD S8 3 true x7 x6) fun S10 =>
  OX (faD 1 a4) fun x11 =>
  OX (ldD S10 1 false x11) fun x12 =>
  OX (faD 0 x7) fun x13 =>
  OX (ldD S10 1 false x13) fun x14 =>
  OX (faD 1 x7) fun x15 =>
  OX (ldD S10 1 false x15) fun x16 =>
  OX (fnD a3) fun q18 => OX (isoCall cf q18.1 ([x16] ++ q18.2)) fun x17 =>
  OX (faD 2 x7) fun x19 =>
  OX (ldD S10 1 false x19) fun x20 =>
  OX (fnD a3) fun q22 => OX (isoCall cf q22.1 ([x20] ++ q22.2)) fun x21 =>
  OX (bldV [.i .i64 0, .i .i64 0, .i .i64 0] [(0, 1, false, x14), (1, 1, false, x17), (2, 1, false, x21)]) fun x23 =>
  OX (cellsV 3 true [(.agg x23)]) fun x24 =>
  OX (appD 3 false x12 (.sl 3 false x24 .ro) S10) fun p26 =>
  OX (faD 1 a4) fun x27 =>
  OX (stD p26.2 1 false x27 p26.1) fun S29 =>
  OX (binD .add .num a22 (.i .i64 1)) fun x30 =>
  Q .normal (mkf 44 [(2, a2), (3, a3), (4, a4), (20, a20), (21, a21), (22, x30), (23, .top)]) S29)
  (Q (.exit 0) (mkf 44 [(2, a2), (3, a3), (4, a4), (20, a20), (21, a21), (22, a22), (23, x4)]) S)
theorem e23_0 (cf : CallF) (a2 : D) (a3 : D) (a4 : D) (a20 : D) (a21 : D) (a22 : D) (a23 : D) (S : Store) (Q : Ex → List D → Store → Prop) : wp cf c23_0 (fkill (mkf 44 [(2, a2), (3, a3), (4, a4), (20, a20), (21, a21), (22, a22), (23, a23)]) []) S Q = s23_0 cf a2 a3 a4 a20 a21 a22 a23 S Q := wpS_of (by kernel_rfl)
def s23 (cf : CallF) (a0 : D) (S : Store) (Post : D → Store → Prop) : Prop :=
  bxx 3 true a0 S fun x31 S32 =>
  al [.sl 2 true [] .ro, .sl 3 true [] .ro, .i .i64 0] S32 fun x33 S34 =>
  OX (ldD S34 3 true x31) fun x35 =>
  OX (isoCall cf 33 [x35]) fun x36 =>
  OX (unD .not x36) fun x37 =>
  WB x37
  (OX (bldV [.sl 2 true [] .ro, .sl 3 true [] .ro, .i .i64 0] []) fun x38 =>
  OX (stD S34 3 true x33 (.agg x38)) fun S40 =>
  OX (ldc S40 3 true x33) fun x41 => Post x41 S40)
  (OX (faD 0 x31) fun x42 =>
  OX (ldD S34 1 false x42) fun x43 =>
  OX (isoCall cf 49 [x43]) fun x44 =>
  OX (faD 2 x31) fun x45 =>
  OX (ldD S34 1 false x45) fun x46 =>
  OX (fnD (.fn 55 [])) fun q48 => OX (isoCall cf q48.1 ([x46] ++ q48.2)) fun x47 =>
  OX (bldV [.sl 2 true [] .ro, .sl 3 true [] .ro, .i .i64 0] [(0, 1, false, x44), (2, 1, false, x47)]) fun x49 =>
  al [.sl 2 true [] .ro, .sl 3 true [] .ro, .i .i64 0] S34 fun x50 S51 =>
  OX (ldD S51 1 false x42) fun x52 => deq x52 x43 = true ∧
  (OX (ldD S51 1 false x45) fun x53 => deq x53 x46 = true ∧
  (OX (stD S51 3 true x50 (.agg x49)) fun S55 =>
  OX (faD 1 x31) fun x56 =>
  OX (ldD S55 1 false x56) fun x57 =>
  OX (lenD false x57) fun x58 =>
  W cf (.loop [] c23_0) (mkf 44 [(2, x33), (3, (.fn 55 [])), (4, x50), (20, x57), (21, x58), (22, (.i .i64 0)), (23, .top)]) S55 (Qblk 0 (QS cf c23_r0 (FinK [.cell 2 3 true] Post))))))
theorem e23 (cf : CallF) (a0 : D) (S : Store) (Post : D → Store → Prop) : wp cf c23 (frame0 d23 [a0]) S (FinK d23.res Post) = s23 cf a0 S Post := wpS_of (by kernel_rfl)
theorem i23 (a0 : D) (r : D) (ha : noRefL (stripL [a0]) = true) (hr : noRef r = true) (h : s23 (call dp) (strip a0) [] fun d _ => stripT d = r) : isoCall (call dp) 23 [a0] = some r := iso_s (f := d23) rfl ⟨rfl, by decide⟩ ha hr (by rw [← e23] at h; exact h)
theorem j23 (a0 : D) (Post : D → Prop) (ha : noRefL (stripL [a0]) = true) (hr : ∀ r, Post r → noRef r = true) (h : s23 (call dp) (strip a0) [] fun d _ => Post (stripT d)) : ∃ r, isoCall (call dp) 23 [a0] = some r ∧ Post r := iso_x (f := d23) rfl ⟨rfl, by decide⟩ ha hr (by rw [← e23] at h; exact h)
theorem f23 (a0 : D) (S : Store) (Post : D → Store → Prop) (h : s23 (call dp) a0 S Post) : ∃ r S', call dp 23 [a0] S = some (r, S') ∧ Post r S' := call_s (f := d23) rfl ⟨rfl, by decide⟩ (by rw [← e23] at h; exact h)

/-! lineage/bdd.Not$1 -/
def s55 (cf : CallF) (a0 : D) (S : Store) (Post : D → Store → Prop) : Prop :=
  OX (binD .lss .num a0 (.i .i64 2)) fun x1 =>
  WB x1
  (OX (binD .sub .num (.i .i64 1) a0) fun x2 =>
  Post x2 S)
  (Post a0 S)
theorem e55 (cf : CallF) (a0 : D) (S : Store) (Post : D → Store → Prop) : wp cf c55 (frame0 d55 [a0]) S (FinK d55.res Post) = s55 cf a0 S Post := wpS_of (by kernel_rfl)
theorem i55 (a0 : D) (r : D) (ha : noRefL (stripL [a0]) = true) (hr : noRef r = true) (h : s55 (call dp) (strip a0) [] fun d _ => stripT d = r) : isoCall (call dp) 55 [a0] = some r := iso_s (f := d55) rfl ⟨rfl, by decide⟩ ha hr (by rw [← e55] at h; exact h)
theorem j55 (a0 : D) (Post : D → Prop) (ha : noRefL (stripL [a0]) = true) (hr : ∀ r, Post r → noRef r = true) (h : s55 (call dp) (strip a0) [] fun d _ => Post (stripT d)) : ∃ r, isoCall (call dp) 55 [a0] = some r ∧ Post r := iso_x (f := d55) rfl ⟨rfl, by decide⟩ ha hr (by rw [← e55] at h; exact h)
theorem f55 (a0 : D) (S : Store) (Post : D → Store → Prop) (h : s55 (call dp) a0 S Post) : ∃ r S', call dp 55 [a0] S = some (r, S') ∧ Post r S' := call_s (f := d55) rfl ⟨rfl, by decide⟩ (by rw [← e55] at h; exact h)

/-! lineage/bdd.Restrict -/
def s38_r0 (cf : CallF) (a2 : D) (a3 : D) (a6 : D) (a7 : D) (a8 : D) (a9 : D) (a24 : D) (a25 : D) (a26 : D) (a27 : D) (S : Store) (Q : Ex → List D → Store → Prop) : Prop :=
  OX (faD 0 a3) fun x1 =>
  OX (ldD S 1 false x1) fun x2 =>
  OX (faD 0 a8) fun x3 =>
  OX (ldD S 1 false x3) fun x4 =>
  OX (faD 2 a3) fun x5 =>
  OX (ldD S 1 false x5) fun x6 =>
  OX (iaD 1 a9 x6) fun x7 =>
  OX (ldD S 1 false x7) fun x8 =>
  OX (isoCall cf 72 [x2, x4, x8]) fun x9 =>
  OX (stD S 3 true a6 x9) fun S11 =>
  Q .ret (mkf 66 [(2, .top), (3, .top), (6, a6), (7, .top), (8, .top), (9, .top), (24, .top), (25, .top), (26, .top), (27, .top)]) S11
theorem e38_r0 (cf : CallF) (a2 : D) (a3 : D) (a6 : D) (a7 : D) (a8 : D) (a9 : D) (a24 : D) (a25 : D) (a26 : D) (a27 : D) (S : Store) (Q : Ex → List D → Store → Prop) : wp cf c38_r0 (mkf 66 [(2, a2), (3, a3), (6, a6), (7, a7), (8, a8), (9, a9), (24, a24), (25, a25), (26, a26), (27, a27)]) S Q = s38_r0 cf a2 a3 a6 a7 a8 a9 a24 a25 a26 a27 S Q := wpS_of (by kernel_rfl)
def s38_0 (cf : CallF) (a2 : D) (a3 : D) (a6 : D) (a7 : D) (a8 : D) (a9 : D) (a24 : D) (a25 : D) (a26 : D) (a27 : D) (S : Store) (Q : Ex → List D → Store → Prop) : Prop :=
  OX (binD .lss .num a26 a25) fun x12 =>
  WB x12
  (OX (iaD 3 a24 a26) fun x13 =>
  OX (ldD S 3 true x13) fun x14 =>
  al [.i .i64 0, .i .i64 0, .i .i64 0] S fun x15 S16 =>
  OX (stD S16 3 true x15 x14) fun S18 =>
  OX (faD 1 x15) fun x19 =>
  OX (ldD S18 1 false x19) fun x20 =>
  OX (iaD 1 a9 x20) fun x21 =>
  OX (ldD S18 1 false x21) fun x22 =>
  OX (faD 2 x15) fun x23 =>
  OX (ldD S18 1 false x23) fun x24 =>
  OX (iaD 1 a9 x24) fun x25 =>
  OX (ldD S18 1 false x25) fun x26 =>
  OX (faD 0 x15) fun x27 =>
  OX (ldD S18 1 false x27) fun x28 =>
  OX (binD .eql .num x28 a7) fun x29 =>
  jn (fun (y31 : D) (y32 : D) (y33 : D) (y34 : D) (y35 : D) (y36 : D) (y37 : D) (y38 : D) (y39 : D) (y40 : D) (y41 : D) (y42 : D) (y43 : D) (S44 : Store) =>
  OX (faD 0 y37) fun x45 =>
  OX (ldD S44 1 false x45) fun x46 =>
  OX (cf 80 [y35, x46, y38, y39] S44) fun p48 =>
  OX (cellsV 1 false [p48.1]) fun x49 =>
  OX (appD 1 false y36 (.sl 1 false x49 .ro) p48.2) fun p51 =>
  OX (binD .add .num y42 (.i .i64 1)) fun x52 =>
  Q .normal (mkf 66 [(2, y31), (3, y32), (6, y33), (7, y34), (8, y35), (9, p51.1), (24, y40), (25, y41), (26, x52), (27, .top)]) p51.2) fun k30 =>
  WB x29
  (WB a2
  (k30 a2 a3 a6 a7 a8 a9 x15 x26 x26 a24 a25 a26 D.top S18)
  (k30 a2 a3 a6 a7 a8 a9 x15 x22 x22 a24 a25 a26 D.top S18))
  (k30 a2 a3 a6 a7 a8 a9 x15 x22 x26 a24 a25 a26 x29 S18))
  (Q (.exit 0) (mkf 66 [(2, a2), (3, a3), (6, a6), (7, a7), (8, a8), (9, a9), (24, a24), (25, a25), (26, a26), (27, x12)]) S)
theorem e38_0 (cf : CallF) (a2 : D) (a3 : D) (a6 : D) (a7 : D) (a8 : D) (a9 : D) (a24 : D) (a25 : D) (a26 : D) (a27 : D) (S : Store) (Q : Ex → List D → Store → Prop) : wp cf c38_0 (fkill (mkf 66 [(2, a2), (3, a3), (6, a6), (7, a7), (8, a8), (9, a9), (24, a24), (25, a25), (26, a26), (27, a27)]) []) S Q = s38_0 cf a2 a3 a6 a7 a8 a9 a24 a25 a26 a27 S Q := wpS_of (by kernel_rfl)
def s38 (cf : CallF) (a0 : D) (a1 : D) (a2 : D) (S : Store) (Post : D → Store → Prop) : Prop :=
  bxx 3 true a0 S fun x53 S54 =>
  bxx 2 true a1 S54 fun x55 S56 =>
  al [.sl 2 true [] .ro, .sl 3 true [] .ro, .i .i64 0] S56 fun x57 S58 =>
  OX (ldD S58 3 true x53) fun x59 =>
  OX (isoCall cf 33 [x59]) fun x60 =>
  OX (unD .not x60) fun x61 =>
  WB x61
  (OX (bldV [.sl 2 true [] .ro, .sl 3 true [] .ro, .i .i64 0] []) fun x62 =>
  OX (stD S58 3 true x57 (.agg x62)) fun S64 =>
  OX (ldc S64 3 true x57) fun x65 => Post x65 S64)
  (OX (faD 0 x53) fun x66 =>
  OX (ldD S58 1 false x66) fun x67 =>
  OX (ldD S58 2 true x55) fun x68 =>
  OX (isoCall cf 50 [x67, x68]) fun x69 =>
  al [.sl 3 true [] .ro, .nilm] S58 fun x70 S71 =>
  OX (cellsV 1 false [(.i .i64 0), (.i .i64 1)]) fun x72 =>
  OX (faD 1 x53) fun x73 =>
  OX (ldD (bslO 1 x72 S71).2 1 false x73) fun x74 =>
  OX (lenD false x74) fun x75 =>
  W cf (.loop [] c38_0) (mkf 66 [(2, a2), (3, x53), (6, x57), (7, x69), (8, x70), (9, (bslO 1 x72 S71).1), (24, x74), (25, x75), (26, (.i .i64 0)), (27, .top)]) (bslO 1 x72 S71).2 (Qblk 0 (QS cf c38_r0 (FinK [.cell 6 3 true] Post))))
theorem e38 (cf : CallF) (a0 : D) (a1 : D) (a2 : D) (S : Store) (Post : D → Store → Prop) : wp cf c38 (frame0 d38 [a0, a1, a2]) S (FinK d38.res Post) = s38 cf a0 a1 a2 S Post := wpS_of (by kernel_rfl)
theorem i38 (a0 : D) (a1 : D) (a2 : D) (r : D) (ha : noRefL (stripL [a0, a1, a2]) = true) (hr : noRef r = true) (h : s38 (call dp) (strip a0) (strip a1) (strip a2) [] fun d _ => stripT d = r) : isoCall (call dp) 38 [a0, a1, a2] = some r := iso_s (f := d38) rfl ⟨rfl, by decide⟩ ha hr (by rw [← e38] at h; exact h)
theorem j38 (a0 : D) (a1 : D) (a2 : D) (Post : D → Prop) (ha : noRefL (stripL [a0, a1, a2]) = true) (hr : ∀ r, Post r → noRef r = true) (h : s38 (call dp) (strip a0) (strip a1) (strip a2) [] fun d _ => Post (stripT d)) : ∃ r, isoCall (call dp) 38 [a0, a1, a2] = some r ∧ Post r := iso_x (f := d38) rfl ⟨rfl, by decide⟩ ha hr (by rw [← e38] at h; exact h)
theorem f38 (a0 : D) (a1 : D) (a2 : D) (S : Store) (Post : D → Store → Prop) (h : s38 (call dp) a0 a1 a2 S Post) : ∃ r S', call dp 38 [a0, a1, a2] S = some (r, S') ∧ Post r S' := call_s (f := d38) rfl ⟨rfl, by decide⟩ (by rw [← e38] at h; exact h)

/-! lineage/lineagelaw11.BddBoolean -/
def s8 (cf : CallF) (a0 : D) (a1 : D) (a2 : D) (a3 : D) (S : Store) (Post : D → Store → Prop) : Prop :=
  bxx 3 true a0 S fun x1 S2 =>
  bxx 3 true a1 S2 fun x3 S4 =>
  bxx 3 true a2 S4 fun x5 S6 =>
  bxx 2 true a3 S6 fun x7 S8 =>
  OX (isoCall cf 10 []) fun x9 =>
  OX (unD .not x9) fun x10 =>
  OX (gsel x10 false (ldD S8 3 true x1)) fun x11 =>
  OX (gsel x10 false (isoCall cf 11 [x11])) fun x12 =>
  OX (gsel x10 false (unD .not x12)) fun x13 =>
  OX (pickD x10 (.b true) x13) fun x14 =>
  OX (gsel x14 false (ldD S8 3 true x3)) fun x15 =>
  OX (gsel x14 false (isoCall cf 11 [x15])) fun x16 =>
  OX (gsel x14 false (unD .not x16)) fun x17 =>
  OX (pickD x14 (.b true) x17) fun x18 =>
  OX (gsel x18 false (ldD S8 3 true x5)) fun x19 =>
  OX (gsel x18 false (isoCall cf 11 [x19])) fun x20 =>
  OX (gsel x18 false (unD .not x20)) fun x21 =>
  OX (pickD x18 (.b true) x21) fun x22 =>
  OX (gsel x22 false (ldD S8 3 true x1)) fun x23 =>
  OX (gsel x22 false (isoCall cf 33 [x23])) fun x24 =>
  OX (gsel x22 false (unD .not x24)) fun x25 =>
  OX (pickD x22 (.b true) x25) fun x26 =>
  OX (gsel x26 false (ldD S8 3 true x3)) fun x27 =>
  OX (gsel x26 false (isoCall cf 33 [x27])) fun x28 =>
  OX (gsel x26 false (unD .not x28)) fun x29 =>
  OX (pickD x26 (.b true) x29) fun x30 =>
  OX (gsel x30 false (ldD S8 3 true x5)) fun x31 =>
  OX (gsel x30 false (isoCall cf 33 [x31])) fun x32 =>
  OX (gsel x30 false (unD .not x32)) fun x33 =>
  OX (pickD x30 (.b true) x33) fun x34 =>
  OX (gsel x34 false (faD 0 x1)) fun x35 =>
  OX (gsel x34 false (ldD S8 1 false x35)) fun x36 =>
  OX (gsel x34 false (faD 0 x3)) fun x37 =>
  OX (gsel x34 false (ldD S8 1 false x37)) fun x38 =>
  OX (gsel x34 false (isoCall cf 27 [x36, x38])) fun x39 =>
  OX (gsel x34 false (unD .not x39)) fun x40 =>
  OX (pickD x34 (.b true) x40) fun x41 =>
  OX (gsel x41 false (faD 0 x1)) fun x42 =>
  OX (gsel x41 false (ldD S8 1 false x42)) fun x43 =>
  OX (gsel x41 false (faD 0 x5)) fun x44 =>
  OX (gsel x41 false (ldD S8 1 false x44)) fun x45 =>
  OX (gsel x41 false (isoCall cf 27 [x43, x45])) fun x46 =>
  OX (gsel x41 false (unD .not x46)) fun x47 =>
  OX (pickD x41 (.b true) x47) fun x48 =>
  WB x48
  (OX (isoCall cf 10 []) fun x49 =>
  Post x49 S8)
  (OX (ldD S8 3 true x1) fun x50 =>
  OX (ldD S8 3 true x3) fun x51 =>
  OX (isoCall cf 21 [x50, x51]) fun x52 =>
  OX (extD x52 0) fun x53 =>
  OX (extD x52 1) fun x54 =>
  al [.sl 2 true [] .ro, .sl 3 true [] .ro, .i .i64 0] S8 fun x55 S56 =>
  OX (stD S56 3 true x55 x53) fun S58 =>
  OX (ldD S58 3 true x1) fun x59 =>
  OX (isoCall cf 23 [x59]) fun x60 =>
  OX (ldD S58 3 true x3) fun x61 =>
  OX (isoCall cf 23 [x61]) fun x62 =>
  OX (isoCall cf 22 [x60, x62]) fun x63 =>
  OX (extD x63 0) fun x64 =>
  OX (extD x63 1) fun x65 =>
  al [.sl 2 true [] .ro, .sl 3 true [] .ro, .i .i64 0] S58 fun x66 S67 =>
  OX (ldD S67 3 true x1) fun x68 => deq x68 x59 = true ∧
  (OX (ldD S67 3 true x3) fun x69 => deq x69 x61 = true ∧
  (OX (stD S67 3 true x66 x64) fun S71 =>
  OX (ldD S71 3 true x3) fun x72 =>
  OX (ldD S71 3 true x5) fun x73 =>
  OX (isoCall cf 22 [x72, x73]) fun x74 =>
  OX (extD x74 0) fun x75 =>
  OX (extD x74 1) fun x76 =>
  al [.sl 2 true [] .ro, .sl 3 true [] .ro, .i .i64 0] S71 fun x77 S78 =>
  OX (stD S78 3 true x77 x75) fun S80 =>
  OX (ldD S80 3 true x1) fun x81 =>
  OX (ldD S80 3 true x77) fun x82 =>
  OX (isoCall cf 21 [x81, x82]) fun x83 =>
  OX (extD x83 0) fun x84 =>
  OX (extD x83 1) fun x85 =>
  al [.sl 2 true [] .ro, .sl 3 true [] .ro, .i .i64 0] S80 fun x86 S87 =>
  OX (stD S87 3 true x86 x84) fun S89 =>
  OX (ldD S89 3 true x1) fun x90 =>
  OX (ldD S89 3 true x5) fun x91 =>
  OX (isoCall cf 21 [x90, x91]) fun x92 =>
  OX (extD x92 0) fun x93 =>
  OX (extD x92 1) fun x94 =>
  al [.sl 2 true [] .ro, .sl 3 true [] .ro, .i .i64 0] S89 fun x95 S96 =>
  OX (stD S96 3 true x95 x93) fun S98 =>
  OX (ldD S98 3 true x55) fun x99 =>
  OX (ldD S98 3 true x95) fun x100 =>
  OX (isoCall cf 22 [x99, x100]) fun x101 =>
  OX (extD x101 0) fun x102 =>
  OX (extD x101 1) fun x103 =>
  al [.sl 2 true [] .ro, .sl 3 true [] .ro, .i .i64 0] S98 fun x104 S105 =>
  OX (stD S105 3 true x104 x102) fun S107 =>
  OX (ldD S107 3 true x1) fun x108 =>
  OX (ldD S107 3 true x1) fun x109 =>
  OX (isoCall cf 23 [x109]) fun x110 =>
  OX (isoCall cf 21 [x108, x110]) fun x111 =>
  OX (extD x111 0) fun x112 =>
  OX (extD x111 1) fun x113 =>
  al [.sl 2 true [] .ro, .sl 3 true [] .ro, .i .i64 0] S107 fun x114 S115 =>
  OX (ldD S115 3 true x1) fun x116 => deq x116 x108 = true ∧
  (OX (ldD S115 3 true x1) fun x117 => deq x117 x109 = true ∧
  (OX (stD S115 3 true x114 x112) fun S119 =>
  OX (ldD S119 3 true x1) fun x120 =>
  OX (isoCall cf 23 [x120]) fun x121 =>
  OX (isoCall cf 23 [x121]) fun x122 =>
  OX (ldD S119 3 true x1) fun x123 =>
  OX (isoCall cf 34 [x122, x123]) fun x124 =>
  OX (unD .not x124) fun x125 =>
  OX (gsel x125 false (ldD S119 3 true x55)) fun x126 =>
  OX (gsel x125 false (isoCall cf 23 [x126])) fun x127 =>
  OX (gsel x125 false (ldD S119 3 true x66)) fun x128 =>
  OX (gsel x125 false (isoCall cf 34 [x127, x128])) fun x129 =>
  OX (gsel x125 false (unD .not x129)) fun x130 =>
  OX (pickD x125 (.b true) x130) fun x131 =>
  OX (gsel x131 false (ldD S119 3 true x86)) fun x132 =>
  OX (gsel x131 false (ldD S119 3 true x104)) fun x133 =>
  OX (gsel x131 false (isoCall cf 34 [x132, x133])) fun x134 =>
  OX (gsel x131 false (unD .not x134)) fun x135 =>
  OX (pickD x131 (.b true) x135) fun x136 =>
  OX (gsel x136 false (ldD S119 3 true x114)) fun x137 =>
  OX (gsel x136 false (faD 0 x1)) fun x138 =>
  OX (gsel x136 false (ldD S119 1 false x138)) fun x139 =>
  OX (gsel x136 false (isoCall cf 13 [x139, (.b false)])) fun x140 =>
  OX (gsel x136 false (isoCall cf 34 [x137, x140])) fun x141 =>
  OX (gsel x136 false (unD .not x141)) fun x142 =>
  OX (pickD x136 (.b true) x142) fun x143 =>
  WB x143
  (Post (.b false) S119)
  (OX (faD 0 x1) fun x144 =>
  OX (ldD S119 1 false x144) fun x145 =>
  OX (ldD S119 2 true x7) fun x146 =>
  OX (isoCall cf 14 [x145, x146]) fun x147 =>
  OX (extD x147 0) fun x148 =>
  OX (extD x147 1) fun x149 =>
  al [.sl 2 true [] .ro, .sl 3 true [] .ro, .i .i64 0] S119 fun x150 S151 =>
  OX (stD S151 3 true x150 x148) fun S153 =>
  OX (binD .neq .num x149 (.i .i64 0)) fun x154 =>
  WB x154
  (OX (ldD S153 3 true x1) fun x155 =>
  OX (ldD S153 2 true x7) fun x156 =>
  OX (isoCall cf 38 [x155, x156, (.b true)]) fun x157 =>
  OX (ldD S153 3 true x1) fun x158 =>
  OX (isoCall cf 34 [x157, x158]) fun x159 =>
  Post x159 S153)
  (OX (ldD S153 3 true x150) fun x160 =>
  OX (ldD S153 3 true x1) fun x161 =>
  OX (ldD S153 2 true x7) fun x162 =>
  OX (isoCall cf 38 [x161, x162, (.b true)]) fun x163 =>
  OX (isoCall cf 21 [x160, x163]) fun x164 =>
  OX (extD x164 0) fun x165 =>
  OX (extD x164 1) fun x166 =>
  al [.sl 2 true [] .ro, .sl 3 true [] .ro, .i .i64 0] S153 fun x167 S168 =>
  OX (ldD S168 3 true x150) fun x169 => deq x169 x160 = true ∧
  (OX (ldD S168 3 true x1) fun x170 => deq x170 x161 = true ∧
  (OX (ldD S168 2 true x7) fun x171 => deq x171 x162 = true ∧
  (OX (stD S168 3 true x167 x165) fun S173 =>
  OX (ldD S173 3 true x150) fun x174 =>
  OX (isoCall cf 23 [x174]) fun x175 =>
  OX (ldD S173 3 true x1) fun x176 =>
  OX (ldD S173 2 true x7) fun x177 =>
  OX (isoCall cf 38 [x176, x177, (.b false)]) fun x178 =>
  OX (isoCall cf 21 [x175, x178]) fun x179 =>
  OX (extD x179 0) fun x180 =>
  OX (extD x179 1) fun x181 =>
  al [.sl 2 true [] .ro, .sl 3 true [] .ro, .i .i64 0] S173 fun x182 S183 =>
  OX (ldD S183 3 true x150) fun x184 => deq x184 x174 = true ∧
  (OX (ldD S183 3 true x1) fun x185 => deq x185 x176 = true ∧
  (OX (ldD S183 2 true x7) fun x186 => deq x186 x177 = true ∧
  (OX (stD S183 3 true x182 x180) fun S188 =>
  OX (ldD S188 3 true x167) fun x189 =>
  OX (ldD S188 3 true x182) fun x190 =>
  OX (isoCall cf 22 [x189, x190]) fun x191 =>
  OX (extD x191 0) fun x192 =>
  OX (extD x191 1) fun x193 =>
  al [.sl 2 true [] .ro, .sl 3 true [] .ro, .i .i64 0] S188 fun x194 S195 =>
  OX (stD S195 3 true x194 x192) fun S197 =>
  OX (ldD S197 3 true x194) fun x198 =>
  OX (ldD S197 3 true x1) fun x199 =>
  OX (isoCall cf 34 [x198, x199]) fun x200 =>
  Post x200 S197)))))))))))))
theorem e8 (cf : CallF) (a0 : D) (a1 : D) (a2 : D) (a3 : D) (S : Store) (Post : D → Store → Prop) : wp cf c8 (frame0 d8 [a0, a1, a2, a3]) S (FinK d8.res Post) = s8 cf a0 a1 a2 a3 S Post := wpS_of (by kernel_rfl)
theorem i8 (a0 : D) (a1 : D) (a2 : D) (a3 : D) (r : D) (ha : noRefL (stripL [a0, a1, a2, a3]) = true) (hr : noRef r = true) (h : s8 (call dp) (strip a0) (strip a1) (strip a2) (strip a3) [] fun d _ => stripT d = r) : isoCall (call dp) 8 [a0, a1, a2, a3] = some r := iso_s (f := d8) rfl ⟨rfl, by decide⟩ ha hr (by rw [← e8] at h; exact h)
theorem j8 (a0 : D) (a1 : D) (a2 : D) (a3 : D) (Post : D → Prop) (ha : noRefL (stripL [a0, a1, a2, a3]) = true) (hr : ∀ r, Post r → noRef r = true) (h : s8 (call dp) (strip a0) (strip a1) (strip a2) (strip a3) [] fun d _ => Post (stripT d)) : ∃ r, isoCall (call dp) 8 [a0, a1, a2, a3] = some r ∧ Post r := iso_x (f := d8) rfl ⟨rfl, by decide⟩ ha hr (by rw [← e8] at h; exact h)
theorem f8 (a0 : D) (a1 : D) (a2 : D) (a3 : D) (S : Store) (Post : D → Store → Prop) (h : s8 (call dp) a0 a1 a2 a3 S Post) : ∃ r S', call dp 8 [a0, a1, a2, a3] S = some (r, S') ∧ Post r S' := call_s (f := d8) rfl ⟨rfl, by decide⟩ (by rw [← e8] at h; exact h)

end Go.Proofs.YtjlmeikcfdanmaaGreatDoor.DE
