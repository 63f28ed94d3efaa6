/-
  THE FUNCTIONS' CODE IN THE STYLE OF WHAT COMES NEXT. PRINTED BY tools/shallow.py of this repository; each text is checked against the code.
-/
import Derived.Test.YtjlmeikcfdanmaaGreatDoorDe24
import Derived.Test.YtjlmeikcfdanmaaGreatDoorDp
import Derived.KernelRfl
namespace Go.Proofs.YtjlmeikcfdanmaaGreatDoor.DE
open Go

/-! (*lineage/bdd.maker).node -/
def s80 (cf : CallF) (a0 : D) (a1 : D) (a2 : D) (a3 : D) (S : Store) (Post : D → Store → Prop) : Prop :=
  OX (binD .eql .num a2 a3) fun x1 =>
  WB x1
  (Post a2 S)
  (OX (bldV [.i .i64 0, .i .i64 0, .i .i64 0] [(0, 1, false, a1), (1, 1, false, a2), (2, 1, false, a3)]) fun x2 =>
  al [.i .i64 0, .i .i64 0, .i .i64 0] S fun x3 S4 =>
  OX (stD S4 3 true x3 (.agg x2)) fun S6 =>
  OX (nilckD a0) fun x7 =>
  OX (faD 1 x7) fun x8 =>
  OX (ldD S6 1 false x8) fun x9 =>
  OX (binD .eql .map x9 .nilm) fun x10 =>
  jn (fun (y12 : D) (y13 : D) (y14 : D) (S15 : Store) =>
  OX (nilckD y12) fun x16 =>
  OX (faD 1 x16) fun x17 =>
  OX (ldD S15 1 false x17) fun x18 =>
  OX (ldD S15 3 true y13) fun x19 =>
  OX (lkD' (.agg [.i, .i, .i]) true (.i .i64 0) S15 x18 x19) fun x20 =>
  OX (extD x20 0) fun x21 =>
  OX (extD x20 1) fun x22 =>
  OX (unD .not x22) fun x23 =>
  jn (fun (y25 : D) (y26 : D) (y27 : D) (y28 : D) (S29 : Store) =>
  Post y27 S29) fun k24 =>
  WB x23
  (OX (nilckD y12) fun x30 =>
  OX (faD 0 x30) fun x31 =>
  OX (ldD S15 1 false x31) fun x32 =>
  OX (lenD false x32) fun x33 =>
  OX (binD .add .num x33 (.i .i64 2)) fun x34 =>
  OX (nilckD y12) fun x35 =>
  OX (faD 1 x35) fun x36 =>
  OX (ldD S15 1 false x36) fun x37 =>
  OX (ldD S15 3 true y13) fun x38 =>
  OX (nilckD y12) fun x39 =>
  OX (faD 0 x39) fun x40 =>
  OX (ldD S15 1 false x40) fun x41 =>
  OX (ldD S15 3 true y13) fun x42 =>
  OX (cellsV 3 true [x42]) fun x43 =>
  OX (appD 3 false x41 (.sl 3 false x43 .ro) S15) fun p45 =>
  OX (ldD p45.2 1 false x36) fun x46 => deq x46 x37 = true ∧
  (OX (ldD p45.2 3 true y13) fun x47 => deq x47 x38 = true ∧
  (OX (nilckD y12) fun x48 =>
  OX (faD 0 x48) fun x49 =>
  OX (stD p45.2 1 false x49 p45.1) fun S51 =>
  OX (ldD S51 3 true y13) fun x52 => deq x52 x38 = true ∧
  (OX (mentV (.agg [.i, .i, .i]) (.i .i64 0) S51 x37 x38) fun p54 =>
  OX (extD p54.1 1) fun x55 =>
  OX (estV p54.2 x37 x55 x34) fun S57 =>
  k24 D.top D.top x34 D.top S57))))
  (k24 y12 y13 x21 x23 S15)) fun k11 =>
  WB x10
  (mm S6 fun x58 S59 =>
  OX (nilckD a0) fun x60 =>
  OX (faD 1 x60) fun x61 =>
  OX (stD S59 1 false x61 x58) fun S63 =>
  k11 a0 x3 D.top S63)
  (k11 a0 x3 x10 S6))
theorem e80 (cf : CallF) (a0 : D) (a1 : D) (a2 : D) (a3 : D) (S : Store) (Post : D → Store → Prop) : wp cf c80 (frame0 d80 [a0, a1, a2, a3]) S (FinK d80.res Post) = s80 cf a0 a1 a2 a3 S Post := wpS_of (by kernel_rfl)
theorem i80 (a0 : D) (a1 : D) (a2 : D) (a3 : D) (r : D) (ha : noRefL (stripL [a0, a1, a2, a3]) = true) (hr : noRef r = true) (h : s80 (call dp) (strip a0) (strip a1) (strip a2) (strip a3) [] fun d _ => stripT d = r) : isoCall (call dp) 80 [a0, a1, a2, a3] = some r := iso_s (f := d80) rfl ⟨rfl, by decide⟩ ha hr (by rw [← e80] at h; exact h)
theorem j80 (a0 : D) (a1 : D) (a2 : D) (a3 : D) (Post : D → Prop) (ha : noRefL (stripL [a0, a1, a2, a3]) = true) (hr : ∀ r, Post r → noRef r = true) (h : s80 (call dp) (strip a0) (strip a1) (strip a2) (strip a3) [] fun d _ => Post (stripT d)) : ∃ r, isoCall (call dp) 80 [a0, a1, a2, a3] = some r ∧ Post r := iso_x (f := d80) rfl ⟨rfl, by decide⟩ ha hr (by rw [← e80] at h; exact h)
theorem f80 (a0 : D) (a1 : D) (a2 : D) (a3 : D) (S : Store) (Post : D → Store → Prop) (h : s80 (call dp) a0 a1 a2 a3 S Post) : ∃ r S', call dp 80 [a0, a1, a2, a3] S = some (r, S') ∧ Post r S' := call_s (f := d80) rfl ⟨rfl, by decide⟩ (by rw [← e80] at h; exact h)

/-! lineage/bdd.children -/
def s95 (cf : CallF) (a0 : D) (a1 : D) (a2 : D) (S : Store) (Post : D → Store → Prop) : Prop :=
  bxx 3 true a0 S fun x1 S2 =>
  OX (ldD S2 3 true x1) fun x3 =>
  OX (isoCall cf 77 [x3, a1]) fun x4 =>
  OX (binD .neq .num x4 a2) fun x5 =>
  WB x5
  (Post (.tup [a1, a1]) S2)
  (OX (faD 1 x1) fun x6 =>
  OX (ldD S2 1 false x6) fun x7 =>
  OX (binD .sub .num a1 (.i .i64 2)) fun x8 =>
  OX (iaD 3 x7 x8) fun x9 =>
  OX (ldD S2 3 true x9) fun x10 =>
  al [.i .i64 0, .i .i64 0, .i .i64 0] S2 fun x11 S12 =>
  OX (stD S12 3 true x11 x10) fun S14 =>
  OX (faD 1 x11) fun x15 =>
  OX (ldD S14 1 false x15) fun x16 =>
  OX (faD 2 x11) fun x17 =>
  OX (ldD S14 1 false x17) fun x18 =>
  Post (.tup [x16, x18]) S14)
theorem e95 (cf : CallF) (a0 : D) (a1 : D) (a2 : D) (S : Store) (Post : D → Store → Prop) : wp cf c95 (frame0 d95 [a0, a1, a2]) S (FinK d95.res Post) = s95 cf a0 a1 a2 S Post := wpS_of (by kernel_rfl)
theorem i95 (a0 : D) (a1 : D) (a2 : D) (r : D) (ha : noRefL (stripL [a0, a1, a2]) = true) (hr : noRef r = true) (h : s95 (call dp) (strip a0) (strip a1) (strip a2) [] fun d _ => stripT d = r) : isoCall (call dp) 95 [a0, a1, a2] = some r := iso_s (f := d95) rfl ⟨rfl, by decide⟩ ha hr (by rw [← e95] at h; exact h)
theorem j95 (a0 : D) (a1 : D) (a2 : D) (Post : D → Prop) (ha : noRefL (stripL [a0, a1, a2]) = true) (hr : ∀ r, Post r → noRef r = true) (h : s95 (call dp) (strip a0) (strip a1) (strip a2) [] fun d _ => Post (stripT d)) : ∃ r, isoCall (call dp) 95 [a0, a1, a2] = some r ∧ Post r := iso_x (f := d95) rfl ⟨rfl, by decide⟩ ha hr (by rw [← e95] at h; exact h)
theorem f95 (a0 : D) (a1 : D) (a2 : D) (S : Store) (Post : D → Store → Prop) (h : s95 (call dp) a0 a1 a2 S Post) : ∃ r S', call dp 95 [a0, a1, a2] S = some (r, S') ∧ Post r S' := call_s (f := d95) rfl ⟨rfl, by decide⟩ (by rw [← e95] at h; exact h)

/-! lineage/bdd.combined$1 -/
def s94 (cf : CallF) (a0 : D) (a1 : D) (a2 : D) (a3 : D) (a4 : D) (a5 : D) (a6 : D) (a7 : D) (S : Store) (Post : D → Store → Prop) : Prop :=
  OX (ldD S 1 false a2) fun x1 =>
  OX (binD .eql .num a0 x1) fun x2 =>
  OX (gsel x2 false (some a1)) fun x3 =>
  OX (gsel x2 false (ldD S 1 false a2)) fun x4 =>
  OX (gsel x2 false (binD .eql .num x3 x4)) fun x5 =>
  OX (pickD x2 (.b true) x5) fun x6 =>
  WB x6
  (OX (ldD S 1 false a2) fun x7 =>
  Post x7 S)
  (OX (binD .lss .num a0 (.i .i64 2)) fun x8 =>
  OX (gsel x8 true (some a1)) fun x9 =>
  OX (gsel x8 true (binD .lss .num x9 (.i .i64 2))) fun x10 =>
  OX (pickD x8 x10 (.b false)) fun x11 =>
  WB x11
  (OX (ldD S 1 false a2) fun x12 =>
  OX (binD .sub .num (.i .i64 1) x12) fun x13 =>
  Post x13 S)
  (OX (ldD S 1 false a3) fun x14 =>
  OX (bldV [.i .i64 0, .i .i64 0] [(0, 1, false, a0), (1, 1, false, a1)]) fun x15 =>
  OX (lkD' (.agg [.i, .i]) true (.i .i64 0) S x14 (.agg x15)) fun x16 =>
  OX (extD x16 0) fun x17 =>
  OX (extD x16 1) fun x18 =>
  WB x18
  (Post x17 S)
  (OX (ldD S 3 true a4) fun x19 =>
  OX (isoCall cf 77 [x19, a0]) fun x20 =>
  OX (ldD S 3 true a5) fun x21 =>
  OX (isoCall cf 77 [x21, a1]) fun x22 =>
  OX (mnD x20 x22) fun x23 =>
  OX (ldD S 3 true a4) fun x24 =>
  OX (isoCall cf 95 [x24, a0, x23]) fun x25 =>
  OX (extD x25 0) fun x26 =>
  OX (extD x25 1) fun x27 =>
  OX (ldD S 3 true a5) fun x28 =>
  OX (isoCall cf 95 [x28, a1, x23]) fun x29 =>
  OX (extD x29 0) fun x30 =>
  OX (extD x29 1) fun x31 =>
  OX (ldD S 1 false a6) fun x32 =>
  OX (ldD S 1 false a6) fun x33 =>
  OX (fnD x32) fun q35 => OX (cf q35.1 ([x26, x30] ++ q35.2) S) fun p36 =>
  OX (ldD p36.2 1 false a6) fun x37 => deq x37 x33 = true ∧
  (OX (fnD x33) fun q39 => OX (cf q39.1 ([x27, x31] ++ q39.2) p36.2) fun p40 =>
  OX (ldD p40.2 1 false a3) fun x41 =>
  OX (bldV [.i .i64 0, .i .i64 0] [(0, 1, false, a0), (1, 1, false, a1)]) fun x42 =>
  OX (cf 80 [a7, x23, p36.1, p40.1] p40.2) fun p44 =>
  OX (ldD p44.2 1 false a3) fun x45 => deq x45 x41 = true ∧
  (OX (muD' (.agg [.i, .i]) p44.2 x41 (.agg x42) p44.1) fun S47 =>
  OX (ldD S47 1 false a3) fun x48 =>
  OX (bldV [.i .i64 0, .i .i64 0] [(0, 1, false, a0), (1, 1, false, a1)]) fun x49 =>
  OX (lkD' (.agg [.i, .i]) false (.i .i64 0) S47 x48 (.agg x49)) fun x50 =>
  Post x50 S47)))))
theorem e94 (cf : CallF) (a0 : D) (a1 : D) (a2 : D) (a3 : D) (a4 : D) (a5 : D) (a6 : D) (a7 : D) (S : Store) (Post : D → Store → Prop) : wp cf c94 (frame0 d94 [a0, a1, a2, a3, a4, a5, a6, a7]) S (FinK d94.res Post) = s94 cf a0 a1 a2 a3 a4 a5 a6 a7 S Post := wpS_of (by kernel_rfl)
theorem i94 (a0 : D) (a1 : D) (a2 : D) (a3 : D) (a4 : D) (a5 : D) (a6 : D) (a7 : D) (r : D) (ha : noRefL (stripL [a0, a1, a2, a3, a4, a5, a6, a7]) = true) (hr : noRef r = true) (h : s94 (call dp) (strip a0) (strip a1) (strip a2) (strip a3) (strip a4) (strip a5) (strip a6) (strip a7) [] fun d _ => stripT d = r) : isoCall (call dp) 94 [a0, a1, a2, a3, a4, a5, a6, a7] = some r := iso_s (f := d94) rfl ⟨rfl, by decide⟩ ha hr (by rw [← e94] at h; exact h)
theorem j94 (a0 : D) (a1 : D) (a2 : D) (a3 : D) (a4 : D) (a5 : D) (a6 : D) (a7 : D) (Post : D → Prop) (ha : noRefL (stripL [a0, a1, a2, a3, a4, a5, a6, a7]) = true) (hr : ∀ r, Post r → noRef r = true) (h : s94 (call dp) (strip a0) (strip a1) (strip a2) (strip a3) (strip a4) (strip a5) (strip a6) (strip a7) [] fun d _ => Post (stripT d)) : ∃ r, isoCall (call dp) 94 [a0, a1, a2, a3, a4, a5, a6, a7] = some r ∧ Post r := iso_x (f := d94) rfl ⟨rfl, by decide⟩ ha hr (by rw [← e94] at h; exact h)
theorem f94 (a0 : D) (a1 : D) (a2 : D) (a3 : D) (a4 : D) (a5 : D) (a6 : D) (a7 : D) (S : Store) (Post : D → Store → Prop) (h : s94 (call dp) a0 a1 a2 a3 a4 a5 a6 a7 S Post) : ∃ r S', call dp 94 [a0, a1, a2, a3, a4, a5, a6, a7] S = some (r, S') ∧ Post r S' := call_s (f := d94) rfl ⟨rfl, by decide⟩ (by rw [← e94] at h; exact h)

/-! lineage/bdd.combined -/
def s54 (cf : CallF) (a0 : D) (a1 : D) (a2 : D) (S : Store) (Post : D → Store → Prop) : Prop :=
  bxx 3 true a0 S fun x1 S2 =>
  bxx 3 true a1 S2 fun x3 S4 =>
  bxx 1 false a2 S4 fun x5 S6 =>
  al [.sl 2 true [] .ro, .sl 3 true [] .ro, .i .i64 0] S6 fun x7 S8 =>
  OX (ldD S8 3 true x1) fun x9 =>
  OX (isoCall cf 33 [x9]) fun x10 =>
  OX (unD .not x10) fun x11 =>
  OX (gsel x11 false (ldD S8 3 true x3)) fun x12 =>
  OX (gsel x11 false (isoCall cf 33 [x12])) fun x13 =>
  OX (gsel x11 false (unD .not x13)) fun x14 =>
  OX (pickD x11 (.b true) x14) fun x15 =>
  OX (gsel x15 false (faD 0 x1)) fun x16 =>
  OX (gsel x15 false (ldD S8 1 false x16)) fun x17 =>
  OX (gsel x15 false (faD 0 x3)) fun x18 =>
  OX (gsel x15 false (ldD S8 1 false x18)) fun x19 =>
  OX (gsel x15 false (isoCall cf 74 [x17, x19])) fun x20 =>
  OX (gsel x15 false (unD .not x20)) fun x21 =>
  OX (pickD x15 (.b true) x21) fun x22 =>
  WB x22
  (OX (bldV [.sl 2 true [] .ro, .sl 3 true [] .ro, .i .i64 0] []) fun x23 =>
  OX (stD S8 3 true x7 (.agg x23)) fun S25 =>
  OX (ldc S25 3 true x7) fun x26 => Post (.tup [x26, (.i .i64 1)]) S25)
  (al [.sl 3 true [] .ro, .nilm] S8 fun x27 S28 =>
  mm S28 fun x29 S30 =>
  al [.nilm] S30 fun x31 S32 =>
  OX (stD S32 1 false x31 x29) fun S34 =>
  al [.top] S34 fun x35 S36 =>
  OX (stD S36 1 false x35 (.fn 94 [x5, x31, x1, x3, x35, x27])) fun S38 =>
  OX (ldD S38 1 false x35) fun x39 =>
  OX (faD 2 x1) fun x40 =>
  OX (ldD S38 1 false x40) fun x41 =>
  OX (faD 2 x3) fun x42 =>
  OX (ldD S38 1 false x42) fun x43 =>
  OX (fnD x39) fun q45 => OX (cf q45.1 ([x41, x43] ++ q45.2) S38) fun p46 =>
  OX (faD 0 x1) fun x47 =>
  OX (ldD p46.2 1 false x47) fun x48 =>
  OX (faD 0 x27) fun x49 =>
  OX (ldD p46.2 1 false x49) fun x50 =>
  OX (isoCall cf 72 [x48, x50, p46.1]) fun x51 =>
  al [.sl 2 true [] .ro, .sl 3 true [] .ro, .i .i64 0] p46.2 fun x52 S53 =>
  OX (stD S53 3 true x52 x51) fun S55 =>
  OX (faD 1 x52) fun x56 =>
  OX (ldD S55 1 false x56) fun x57 =>
  OX (lenD false x57) fun x58 =>
  OX (binD .gtr .num x58 (.i .i64 4096)) fun x59 =>
  WB x59
  (OX (bldV [.sl 2 true [] .ro, .sl 3 true [] .ro, .i .i64 0] []) fun x60 =>
  OX (stD S55 3 true x7 (.agg x60)) fun S62 =>
  OX (ldc S62 3 true x7) fun x63 => Post (.tup [x63, (.i .i64 6)]) S62)
  (OX (ldD S55 3 true x52) fun x64 =>
  OX (stD S55 3 true x7 x64) fun S66 =>
  OX (ldc S66 3 true x7) fun x67 => Post (.tup [x67, (.i .i64 0)]) S66))
theorem e54 (cf : CallF) (a0 : D) (a1 : D) (a2 : D) (S : Store) (Post : D → Store → Prop) : wp cf c54 (frame0 d54 [a0, a1, a2]) S (FinK d54.res Post) = s54 cf a0 a1 a2 S Post := wpS_of (by kernel_rfl)
theorem i54 (a0 : D) (a1 : D) (a2 : D) (r : D) (ha : noRefL (stripL [a0, a1, a2]) = true) (hr : noRef r = true) (h : s54 (call dp) (strip a0) (strip a1) (strip a2) [] fun d _ => stripT d = r) : isoCall (call dp) 54 [a0, a1, a2] = some r := iso_s (f := d54) rfl ⟨rfl, by decide⟩ ha hr (by rw [← e54] at h; exact h)
theorem j54 (a0 : D) (a1 : D) (a2 : D) (Post : D → Prop) (ha : noRefL (stripL [a0, a1, a2]) = true) (hr : ∀ r, Post r → noRef r = true) (h : s54 (call dp) (strip a0) (strip a1) (strip a2) [] fun d _ => Post (stripT d)) : ∃ r, isoCall (call dp) 54 [a0, a1, a2] = some r ∧ Post r := iso_x (f := d54) rfl ⟨rfl, by decide⟩ ha hr (by rw [← e54] at h; exact h)
theorem f54 (a0 : D) (a1 : D) (a2 : D) (S : Store) (Post : D → Store → Prop) (h : s54 (call dp) a0 a1 a2 S Post) : ∃ r S', call dp 54 [a0, a1, a2] S = some (r, S') ∧ Post r S' := call_s (f := d54) rfl ⟨rfl, by decide⟩ (by rw [← e54] at h; exact h)

/-! lineage/bdd.And -/
def s21 (cf : CallF) (a0 : D) (a1 : D) (S : Store) (Post : D → Store → Prop) : Prop :=
  bxx 3 true a0 S fun x1 S2 =>
  bxx 3 true a1 S2 fun x3 S4 =>
  al [.sl 2 true [] .ro, .sl 3 true [] .ro, .i .i64 0] S4 fun x5 S6 =>
  OX (ldD S6 3 true x1) fun x7 =>
  OX (ldD S6 3 true x3) fun x8 =>
  OX (isoCall cf 54 [x7, x8, (.i .i64 0)]) fun x9 =>
  OX (extD x9 0) fun x10 =>
  OX (extD x9 1) fun x11 =>
  OX (stD S6 3 true x5 x10) fun S13 =>
  OX (ldc S13 3 true x5) fun x14 => Post (.tup [x14, x11]) S13
theorem e21 (cf : CallF) (a0 : D) (a1 : D) (S : Store) (Post : D → Store → Prop) : wp cf c21 (frame0 d21 [a0, a1]) S (FinK d21.res Post) = s21 cf a0 a1 S Post := wpS_of (by kernel_rfl)
theorem i21 (a0 : D) (a1 : D) (r : D) (ha : noRefL (stripL [a0, a1]) = true) (hr : noRef r = true) (h : s21 (call dp) (strip a0) (strip a1) [] fun d _ => stripT d = r) : isoCall (call dp) 21 [a0, a1] = some r := iso_s (f := d21) rfl ⟨rfl, by decide⟩ ha hr (by rw [← e21] at h; exact h)
theorem j21 (a0 : D) (a1 : D) (Post : D → Prop) (ha : noRefL (stripL [a0, a1]) = true) (hr : ∀ r, Post r → noRef r = true) (h : s21 (call dp) (strip a0) (strip a1) [] fun d _ => Post (stripT d)) : ∃ r, isoCall (call dp) 21 [a0, a1] = some r ∧ Post r := iso_x (f := d21) rfl ⟨rfl, by decide⟩ ha hr (by rw [← e21] at h; exact h)
theorem f21 (a0 : D) (a1 : D) (S : Store) (Post : D → Store → Prop) (h : s21 (call dp) a0 a1 S Post) : ∃ r S', call dp 21 [a0, a1] S = some (r, S') ∧ Post r S' := call_s (f := d21) rfl ⟨rfl, by decide⟩ (by rw [← e21] at h; exact h)

/-! lineage/bdd.Or -/
def s22 (cf : CallF) (a0 : D) (a1 : D) (S : Store) (Post : D → Store → Prop) : Prop :=
  bxx 3 true a0 S fun x1 S2 =>
  bxx 3 true a1 S2 fun x3 S4 =>
  al [.sl 2 true [] .ro, .sl 3 true [] .ro, .i .i64 0] S4 fun x5 S6 =>
  OX (ldD S6 3 true x1) fun x7 =>
  OX (ldD S6 3 true x3) fun x8 =>
  OX (isoCall cf 54 [x7, x8, (.i .i64 1)]) fun x9 =>
  OX (extD x9 0) fun x10 =>
  OX (extD x9 1) fun x11 =>
  OX (stD S6 3 true x5 x10) fun S13 =>
  OX (ldc S13 3 true x5) fun x14 => Post (.tup [x14, x11]) S13
theorem e22 (cf : CallF) (a0 : D) (a1 : D) (S : Store) (Post : D → Store → Prop) : wp cf c22 (frame0 d22 [a0, a1]) S (FinK d22.res Post) = s22 cf a0 a1 S Post := wpS_of (by kernel_rfl)
theorem i22 (a0 : D) (a1 : D) (r : D) (ha : noRefL (stripL [a0, a1]) = true) (hr : noRef r = true) (h : s22 (call dp) (strip a0) (strip a1) [] fun d _ => stripT d = r) : isoCall (call dp) 22 [a0, a1] = some r := iso_s (f := d22) rfl ⟨rfl, by decide⟩ ha hr (by rw [← e22] at h; exact h)
theorem j22 (a0 : D) (a1 : D) (Post : D → Prop) (ha : noRefL (stripL [a0, a1]) = true) (hr : ∀ r, Post r → noRef r = true) (h : s22 (call dp) (strip a0) (strip a1) [] fun d _ => Post (stripT d)) : ∃ r, isoCall (call dp) 22 [a0, a1] = some r ∧ Post r := iso_x (f := d22) rfl ⟨rfl, by decide⟩ ha hr (by rw [← e22] at h; exact h)
theorem f22 (a0 : D) (a1 : D) (S : Store) (Post : D → Store → Prop) (h : s22 (call dp) a0 a1 S Post) : ∃ r S', call dp 22 [a0, a1] S = some (r, S') ∧ Post r S' := call_s (f := d22) rfl ⟨rfl, by decide⟩ (by rw [← e22] at h; exact h)

/-! slices.Index[[]lineage/api.RowID,lineage/api.RowID] -/
def s50_r0 (cf : CallF) (a0 : D) (a3 : D) (a4 : D) (a7 : D) (a8 : D) (a9 : D) (S : Store) (Q : Ex → List D → Store → Prop) : Prop :=
  Q .ret (mkf 19 [(0, .top), (3, .top), (4, (.i .i64 (-1))), (7, .top), (8, .top), (9, .top)]) S
theorem e50_r0 (cf : CallF) (a0 : D) (a3 : D) (a4 : D) (a7 : D) (a8 : D) (a9 : D) (S : Store) (Q : Ex → List D → Store → Prop) : wp cf c50_r0 (mkf 19 [(0, a0), (3, a3), (4, a4), (7, a7), (8, a8), (9, a9)]) S Q = s50_r0 cf a0 a3 a4 a7 a8 a9 S Q := wpS_of (by kernel_rfl)
def s50_0 (cf : CallF) (a0 : D) (a3 : D) (a4 : D) (a7 : D) (a8 : D) (a9 : D) (S : Store) (Q : Ex → List D → Store → Prop) : Prop :=
  OX (binD .lss .num a8 a7) fun x1 =>
  WB x1
  (OX (ldD S 2 true a3) fun x2 =>
  OX (iaD 2 a0 a8) fun x3 =>
  OX (ldD S 2 true x3) fun x4 =>
  OX (binD .eql (.agg [.i, .i]) x2 x4) fun x5 =>
  WB x5
  (Q .ret (mkf 19 [(0, .top), (3, .top), (4, a8), (7, .top), (8, .top), (9, .top)]) S)
  (OX (binD .add .num a8 (.i .i64 1)) fun x6 =>
  Q .normal (mkf 19 [(0, a0), (3, a3), (4, a4), (7, a7), (8, x6), (9, .top)]) S))
  (Q (.exit 0) (mkf 19 [(0, a0), (3, a3), (4, a4), (7, a7), (8, a8), (9, x1)]) S)
theorem e50_0 (cf : CallF) (a0 : D) (a3 : D) (a4 : D) (a7 : D) (a8 : D) (a9 : D) (S : Store) (Q : Ex → List D → Store → Prop) : wp cf c50_0 (fkill (mkf 19 [(0, a0), (3, a3), (4, a4), (7, a7), (8, a8), (9, a9)]) []) S Q = s50_0 cf a0 a3 a4 a7 a8 a9 S Q := wpS_of (by kernel_rfl)
def s50 (cf : CallF) (a0 : D) (a1 : D) (S : Store) (Post : D → Store → Prop) : Prop :=
  bxx 2 true a1 S fun x7 S8 =>
  OX (lenD false a0) fun x9 =>
  W cf (.loop [] c50_0) (mkf 19 [(0, a0), (3, x7), (4, .top), (7, x9), (8, (.i .i64 0)), (9, .top)]) S8 (Qblk 0 (QS cf c50_r0 (FinK [.t 4] Post)))
theorem e50 (cf : CallF) (a0 : D) (a1 : D) (S : Store) (Post : D → Store → Prop) : wp cf c50 (frame0 d50 [a0, a1]) S (FinK d50.res Post) = s50 cf a0 a1 S Post := wpS_of (by kernel_rfl)
theorem i50 (a0 : D) (a1 : D) (r : D) (ha : noRefL (stripL [a0, a1]) = true) (hr : noRef r = true) (h : s50 (call dp) (strip a0) (strip a1) [] fun d _ => stripT d = r) : isoCall (call dp) 50 [a0, a1] = some r := iso_s (f := d50) rfl ⟨rfl, by decide⟩ ha hr (by rw [← e50] at h; exact h)
theorem j50 (a0 : D) (a1 : D) (Post : D → Prop) (ha : noRefL (stripL [a0, a1]) = true) (hr : ∀ r, Post r → noRef r = true) (h : s50 (call dp) (strip a0) (strip a1) [] fun d _ => Post (stripT d)) : ∃ r, isoCall (call dp) 50 [a0, a1] = some r ∧ Post r := iso_x (f := d50) rfl ⟨rfl, by decide⟩ ha hr (by rw [← e50] at h; exact h)
theorem f50 (a0 : D) (a1 : D) (S : Store) (Post : D → Store → Prop) (h : s50 (call dp) a0 a1 S Post) : ∃ r S', call dp 50 [a0, a1] S = some (r, S') ∧ Post r S' := call_s (f := d50) rfl ⟨rfl, by decide⟩ (by rw [← e50] at h; exact h)

/-! lineage/bdd.Variable -/
def s14 (cf : CallF) (a0 : D) (a1 : D) (S : Store) (Post : D → Store → Prop) : Prop :=
  bxx 2 true a1 S fun x1 S2 =>
  al [.sl 2 true [] .ro, .sl 3 true [] .ro, .i .i64 0] S2 fun x3 S4 =>
  OX (isoCall cf 48 [a0]) fun x5 =>
  OX (unD .not x5) fun x6 =>
  WB x6
  (OX (bldV [.sl 2 true [] .ro, .sl 3 true [] .ro, .i .i64 0] []) fun x7 =>
  OX (stD S4 3 true x3 (.agg x7)) fun S9 =>
  OX (ldc S9 3 true x3) fun x10 => Post (.tup [x10, (.i .i64 1)]) S9)
  (OX (ldD S4 2 true x1) fun x11 =>
  OX (isoCall cf 50 [a0, x11]) fun x12 =>
  OX (binD .lss .num x12 (.i .i64 0)) fun x13 =>
  WB x13
  (OX (bldV [.sl 2 true [] .ro, .sl 3 true [] .ro, .i .i64 0] []) fun x14 =>
  OX (stD S4 3 true x3 (.agg x14)) fun S16 =>
  OX (ldc S16 3 true x3) fun x17 => Post (.tup [x17, (.i .i64 4)]) S16)
  (OX (isoCall cf 49 [a0]) fun x18 =>
  OX (bldV [.i .i64 0, .i .i64 0, .i .i64 0] [(0, 1, false, x12), (1, 1, false, (.i .i64 0)), (2, 1, false, (.i .i64 1))]) fun x19 =>
  OX (cellsV 3 true [(.agg x19)]) fun x20 =>
  OX (bldV [.sl 2 true [] .ro, .sl 3 true [] .ro, .i .i64 0] [(0, 1, false, x18), (1, 1, false, (.sl 3 false x20 .ro)), (2, 1, false, (.i .i64 2))]) fun x21 =>
  OX (stD S4 3 true x3 (.agg x21)) fun S23 =>
  OX (ldc S23 3 true x3) fun x24 => Post (.tup [x24, (.i .i64 0)]) S23))
theorem e14 (cf : CallF) (a0 : D) (a1 : D) (S : Store) (Post : D → Store → Prop) : wp cf c14 (frame0 d14 [a0, a1]) S (FinK d14.res Post) = s14 cf a0 a1 S Post := wpS_of (by kernel_rfl)
theorem i14 (a0 : D) (a1 : D) (r : D) (ha : noRefL (stripL [a0, a1]) = true) (hr : noRef r = true) (h : s14 (call dp) (strip a0) (strip a1) [] fun d _ => stripT d = r) : isoCall (call dp) 14 [a0, a1] = some r := iso_s (f := d14) rfl ⟨rfl, by decide⟩ ha hr (by rw [← e14] at h; exact h)
theorem j14 (a0 : D) (a1 : D) (Post : D → Prop) (ha : noRefL (stripL [a0, a1]) = true) (hr : ∀ r, Post r → noRef r = true) (h : s14 (call dp) (strip a0) (strip a1) [] fun d _ => Post (stripT d)) : ∃ r, isoCall (call dp) 14 [a0, a1] = some r ∧ Post r := iso_x (f := d14) rfl ⟨rfl, by decide⟩ ha hr (by rw [← e14] at h; exact h)
theorem f14 (a0 : D) (a1 : D) (S : Store) (Post : D → Store → Prop) (h : s14 (call dp) a0 a1 S Post) : ∃ r S', call dp 14 [a0, a1] S = some (r, S') ∧ Post r S' := call_s (f := d14) rfl ⟨rfl, by decide⟩ (by rw [← e14] at h; exact h)

/-! lineage/bdd.Terminal -/
def s13 (cf : CallF) (a0 : D) (a1 : D) (S : Store) (Post : D → Store → Prop) : Prop :=
  al [.sl 2 true [] .ro, .sl 3 true [] .ro, .i .i64 0] S fun x1 S2 =>
  OX (isoCall cf 48 [a0]) fun x3 =>
  OX (unD .not x3) fun x4 =>
  WB x4
  (OX (bldV [.sl 2 true [] .ro, .sl 3 true [] .ro, .i .i64 0] []) fun x5 =>
  OX (stD S2 3 true x1 (.agg x5)) fun S7 =>
  OX (ldc S7 3 true x1) fun x8 => Post x8 S7)
  (OX (isoCall cf 49 [a0]) fun x9 =>
  OX (bldV [.sl 2 true [] .ro, .sl 3 true [] .ro, .i .i64 0] [(0, 1, false, x9)]) fun x10 =>
  al [.sl 2 true [] .ro, .sl 3 true [] .ro, .i .i64 0] S2 fun x11 S12 =>
  OX (stD S12 3 true x11 (.agg x10)) fun S14 =>
  jn (fun (y16 : D) (y17 : D) (y18 : D) (S19 : Store) =>
  OX (ldD S19 3 true y17) fun x20 =>
  OX (stD S19 3 true y16 x20) fun S22 =>
  OX (ldc S22 3 true y16) fun x23 => Post x23 S22) fun k15 =>
  WB a1
  (OX (faD 2 x11) fun x24 =>
  OX (stD S14 1 false x24 (.i .i64 1)) fun S26 =>
  k15 x1 x11 D.top S26)
  (k15 x1 x11 a1 S14))
theorem e13 (cf : CallF) (a0 : D) (a1 : D) (S : Store) (Post : D → Store → Prop) : wp cf c13 (frame0 d13 [a0, a1]) S (FinK d13.res Post) = s13 cf a0 a1 S Post := wpS_of (by kernel_rfl)
theorem i13 (a0 : D) (a1 : D) (r : D) (ha : noRefL (stripL [a0, a1]) = true) (hr : noRef r = true) (h : s13 (call dp) (strip a0) (strip a1) [] fun d _ => stripT d = r) : isoCall (call dp) 13 [a0, a1] = some r := iso_s (f := d13) rfl ⟨rfl, by decide⟩ ha hr (by rw [← e13] at h; exact h)
theorem j13 (a0 : D) (a1 : D) (Post : D → Prop) (ha : noRefL (stripL [a0, a1]) = true) (hr : ∀ r, Post r → noRef r = true) (h : s13 (call dp) (strip a0) (strip a1) [] fun d _ => Post (stripT d)) : ∃ r, isoCall (call dp) 13 [a0, a1] = some r ∧ Post r := iso_x (f := d13) rfl ⟨rfl, by decide⟩ ha hr (by rw [← e13] at h; exact h)
theorem f13 (a0 : D) (a1 : D) (S : Store) (Post : D → Store → Prop) (h : s13 (call dp) a0 a1 S Post) : ∃ r S', call dp 13 [a0, a1] S = some (r, S') ∧ Post r S' := call_s (f := d13) rfl ⟨rfl, by decide⟩ (by rw [← e13] at h; exact h)

/-! lineage/lineagelaw11.same -/
def s27 (cf : CallF) (a0 : D) (a1 : D) (S : Store) (Post : D → Store → Prop) : Prop :=
  OX (isoCall cf 52 [a0, a1]) fun x1 =>
  Post x1 S
theorem e27 (cf : CallF) (a0 : D) (a1 : D) (S : Store) (Post : D → Store → Prop) : wp cf c27 (frame0 d27 [a0, a1]) S (FinK d27.res Post) = s27 cf a0 a1 S Post := wpS_of (by kernel_rfl)
theorem i27 (a0 : D) (a1 : D) (r : D) (ha : noRefL (stripL [a0, a1]) = true) (hr : noRef r = true) (h : s27 (call dp) (strip a0) (strip a1) [] fun d _ => stripT d = r) : isoCall (call dp) 27 [a0, a1] = some r := iso_s (f := d27) rfl ⟨rfl, by decide⟩ ha hr (by rw [← e27] at h; exact h)
theorem j27 (a0 : D) (a1 : D) (Post : D → Prop) (ha : noRefL (stripL [a0, a1]) = true) (hr : ∀ r, Post r → noRef r = true) (h : s27 (call dp) (strip a0) (strip a1) [] fun d _ => Post (stripT d)) : ∃ r, isoCall (call dp) 27 [a0, a1] = some r ∧ Post r := iso_x (f := d27) rfl ⟨rfl, by decide⟩ ha hr (by rw [← e27] at h; exact h)
theorem f27 (a0 : D) (a1 : D) (S : Store) (Post : D → Store → Prop) (h : s27 (call dp) a0 a1 S Post) : ∃ r S', call dp 27 [a0, a1] S = some (r, S') ∧ Post r S' := call_s (f := d27) rfl ⟨rfl, by decide⟩ (by rw [← e27] at h; exact h)

end Go.Proofs.YtjlmeikcfdanmaaGreatDoor.DE
