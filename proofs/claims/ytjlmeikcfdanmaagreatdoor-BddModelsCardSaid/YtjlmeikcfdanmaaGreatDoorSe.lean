/-
  THE FUNCTIONS' CODE IN THE STYLE OF WHAT COMES NEXT. PRINTED BY tools/shallow.py of this repository; each text is checked against the code.
-/
import Derived.Test.YtjlmeikcfdanmaaGreatDoorDe24
import Derived.Test.YtjlmeikcfdanmaaGreatDoorDp
import Derived.KernelRfl
namespace Go.Proofs.YtjlmeikcfdanmaaGreatDoor.DE
open Go

/-! lineage/bignat.FromUint -/
def s75 (cf : CallF) (a0 : D) (S : Store) (Post : D → Store → Prop) : Prop :=
  OX (convD .u32 a0) fun x1 =>
  OX (binD .shr .num a0 (.i .u64 32)) fun x2 =>
  OX (convD .u32 x2) fun x3 =>
  OX (cellsV 1 false [x1, x3]) fun x4 =>
  OX (isoCall cf 116 [(.sl 1 false x4 .ro)]) fun x5 =>
  Post x5 S
theorem e75 (cf : CallF) (a0 : D) (S : Store) (Post : D → Store → Prop) : wp cf c75 (frame0 d75 [a0]) S (FinK d75.res Post) = s75 cf a0 S Post := wpS_of (by kernel_rfl)
theorem i75 (a0 : D) (r : D) (ha : noRefL (stripL [a0]) = true) (hr : noRef r = true) (h : s75 (call dp) (strip a0) [] fun d _ => stripT d = r) : isoCall (call dp) 75 [a0] = some r := iso_s (f := d75) rfl ⟨rfl, by decide⟩ ha hr (by rw [← e75] at h; exact h)
theorem j75 (a0 : D) (Post : D → Prop) (ha : noRefL (stripL [a0]) = true) (hr : ∀ r, Post r → noRef r = true) (h : s75 (call dp) (strip a0) [] fun d _ => Post (stripT d)) : ∃ r, isoCall (call dp) 75 [a0] = some r ∧ Post r := iso_x (f := d75) rfl ⟨rfl, by decide⟩ ha hr (by rw [← e75] at h; exact h)
theorem f75 (a0 : D) (S : Store) (Post : D → Store → Prop) (h : s75 (call dp) a0 S Post) : ∃ r S', call dp 75 [a0] S = some (r, S') ∧ Post r S' := call_s (f := d75) rfl ⟨rfl, by decide⟩ (by rw [← e75] at h; exact h)

/-! lineage/bignat.trimmed -/
def s116_r0 (cf : CallF) (a0 : D) (a2 : D) (a3 : D) (a15 : D) (S : Store) (Q : Ex → List D → Store → Prop) : Prop :=
  OX (slcD 1 a0 none (some a3)) fun x1 =>
  Q .ret (mkf 21 [(0, .top), (2, x1), (3, .top), (15, .top)]) S
theorem e116_r0 (cf : CallF) (a0 : D) (a2 : D) (a3 : D) (a15 : D) (S : Store) (Q : Ex → List D → Store → Prop) : wp cf c116_r0 (mkf 21 [(0, a0), (2, a2), (3, a3), (15, a15)]) S Q = s116_r0 cf a0 a2 a3 a15 S Q := wpS_of (by kernel_rfl)
def s116_0 (cf : CallF) (a0 : D) (a2 : D) (a3 : D) (a15 : D) (S : Store) (Q : Ex → List D → Store → Prop) : Prop :=
  OX (binD .gtr .num a3 (.i .i64 0)) fun x2 =>
  OX (gsel x2 true (some a0)) fun x3 =>
  OX (gsel x2 true (some a3)) fun x4 =>
  OX (gsel x2 true (binD .sub .num x4 (.i .i64 1))) fun x5 =>
  OX (gsel x2 true (iaD 1 x3 x5)) fun x6 =>
  OX (gsel x2 true (ldD S 1 false x6)) fun x7 =>
  OX (gsel x2 true (binD .eql .num x7 (.i .u32 0))) fun x8 =>
  OX (pickD x2 x8 (.b false)) fun x9 =>
  WB x9
  (OX (binD .sub .num a3 (.i .i64 1)) fun x10 =>
  Q .normal (mkf 21 [(0, a0), (2, a2), (3, x10), (15, .top)]) S)
  (Q (.exit 0) (mkf 21 [(0, a0), (2, a2), (3, a3), (15, x9)]) S)
theorem e116_0 (cf : CallF) (a0 : D) (a2 : D) (a3 : D) (a15 : D) (S : Store) (Q : Ex → List D → Store → Prop) : wp cf c116_0 (fkill (mkf 21 [(0, a0), (2, a2), (3, a3), (15, a15)]) []) S Q = s116_0 cf a0 a2 a3 a15 S Q := wpS_of (by kernel_rfl)
def s116 (cf : CallF) (a0 : D) (S : Store) (Post : D → Store → Prop) : Prop :=
  OX (lenD false a0) fun x11 =>
  W cf (.loop [] c116_0) (mkf 21 [(0, a0), (2, .top), (3, x11), (15, .top)]) S (Qblk 0 (QS cf c116_r0 (FinK [.t 2] Post)))
theorem e116 (cf : CallF) (a0 : D) (S : Store) (Post : D → Store → Prop) : wp cf c116 (frame0 d116 [a0]) S (FinK d116.res Post) = s116 cf a0 S Post := wpS_of (by kernel_rfl)
theorem i116 (a0 : D) (r : D) (ha : noRefL (stripL [a0]) = true) (hr : noRef r = true) (h : s116 (call dp) (strip a0) [] fun d _ => stripT d = r) : isoCall (call dp) 116 [a0] = some r := iso_s (f := d116) rfl ⟨rfl, by decide⟩ ha hr (by rw [← e116] at h; exact h)
theorem j116 (a0 : D) (Post : D → Prop) (ha : noRefL (stripL [a0]) = true) (hr : ∀ r, Post r → noRef r = true) (h : s116 (call dp) (strip a0) [] fun d _ => Post (stripT d)) : ∃ r, isoCall (call dp) 116 [a0] = some r ∧ Post r := iso_x (f := d116) rfl ⟨rfl, by decide⟩ ha hr (by rw [← e116] at h; exact h)
theorem f116 (a0 : D) (S : Store) (Post : D → Store → Prop) (h : s116 (call dp) a0 S Post) : ∃ r S', call dp 116 [a0] S = some (r, S') ∧ Post r S' := call_s (f := d116) rfl ⟨rfl, by decide⟩ (by rw [← e116] at h; exact h)

/-! lineage/bignat.Valid -/
def s79 (cf : CallF) (a0 : D) (S : Store) (Post : D → Store → Prop) : Prop :=
  OX (lenD false a0) fun x1 =>
  OX (binD .leq .num x1 (.i .i64 128)) fun x2 =>
  OX (gsel x2 true (some a0)) fun x3 =>
  OX (gsel x2 true (lenD false x3)) fun x4 =>
  OX (gsel x2 true (binD .eql .num x4 (.i .i64 0))) fun x5 =>
  OX (gsel x2 true (some x5)) fun x6 =>
  OX (gsel x6 false (some a0)) fun x7 =>
  OX (gsel x6 false (some a0)) fun x8 =>
  OX (gsel x6 false (lenD false x8)) fun x9 =>
  OX (gsel x6 false (binD .sub .num x9 (.i .i64 1))) fun x10 =>
  OX (gsel x6 false (iaD 1 x7 x10)) fun x11 =>
  OX (gsel x6 false (ldD S 1 false x11)) fun x12 =>
  OX (gsel x6 false (binD .neq .num x12 (.i .u32 0))) fun x13 =>
  OX (gsel x2 true (pickD x6 (.b true) x13)) fun x14 =>
  OX (pickD x2 x14 (.b false)) fun x15 =>
  Post x15 S
theorem e79 (cf : CallF) (a0 : D) (S : Store) (Post : D → Store → Prop) : wp cf c79 (frame0 d79 [a0]) S (FinK d79.res Post) = s79 cf a0 S Post := wpS_of (by kernel_rfl)
theorem i79 (a0 : D) (r : D) (ha : noRefL (stripL [a0]) = true) (hr : noRef r = true) (h : s79 (call dp) (strip a0) [] fun d _ => stripT d = r) : isoCall (call dp) 79 [a0] = some r := iso_s (f := d79) rfl ⟨rfl, by decide⟩ ha hr (by rw [← e79] at h; exact h)
theorem j79 (a0 : D) (Post : D → Prop) (ha : noRefL (stripL [a0]) = true) (hr : ∀ r, Post r → noRef r = true) (h : s79 (call dp) (strip a0) [] fun d _ => Post (stripT d)) : ∃ r, isoCall (call dp) 79 [a0] = some r ∧ Post r := iso_x (f := d79) rfl ⟨rfl, by decide⟩ ha hr (by rw [← e79] at h; exact h)
theorem f79 (a0 : D) (S : Store) (Post : D → Store → Prop) (h : s79 (call dp) a0 S Post) : ∃ r S', call dp 79 [a0] S = some (r, S') ∧ Post r S' := call_s (f := d79) rfl ⟨rfl, by decide⟩ (by rw [← e79] at h; exact h)

/-! lineage/bignat.fitting -/
def s117 (cf : CallF) (a0 : D) (S : Store) (Post : D → Store → Prop) : Prop :=
  OX (isoCall cf 116 [a0]) fun x1 =>
  OX (lenD false x1) fun x2 =>
  OX (binD .gtr .num x2 (.i .i64 128)) fun x3 =>
  WB x3
  (Post (.tup [(.sl 1 true [] .ro), (.i .i64 6)]) S)
  (Post (.tup [x1, (.i .i64 0)]) S)
theorem e117 (cf : CallF) (a0 : D) (S : Store) (Post : D → Store → Prop) : wp cf c117 (frame0 d117 [a0]) S (FinK d117.res Post) = s117 cf a0 S Post := wpS_of (by kernel_rfl)
theorem i117 (a0 : D) (r : D) (ha : noRefL (stripL [a0]) = true) (hr : noRef r = true) (h : s117 (call dp) (strip a0) [] fun d _ => stripT d = r) : isoCall (call dp) 117 [a0] = some r := iso_s (f := d117) rfl ⟨rfl, by decide⟩ ha hr (by rw [← e117] at h; exact h)
theorem j117 (a0 : D) (Post : D → Prop) (ha : noRefL (stripL [a0]) = true) (hr : ∀ r, Post r → noRef r = true) (h : s117 (call dp) (strip a0) [] fun d _ => Post (stripT d)) : ∃ r, isoCall (call dp) 117 [a0] = some r ∧ Post r := iso_x (f := d117) rfl ⟨rfl, by decide⟩ ha hr (by rw [← e117] at h; exact h)
theorem f117 (a0 : D) (S : Store) (Post : D → Store → Prop) (h : s117 (call dp) a0 S Post) : ∃ r S', call dp 117 [a0] S = some (r, S') ∧ Post r S' := call_s (f := d117) rfl ⟨rfl, by decide⟩ (by rw [← e117] at h; exact h)

/-! lineage/bignat.left -/
def s118_r0 (cf : CallF) (a0 : D) (a1 : D) (a4 : D) (a5 : D) (a13 : D) (a14 : D) (a15 : D) (S : Store) (Q : Ex → List D → Store → Prop) : Prop :=
  OX (fzD a5 S) fun p1 =>
  Q .ret (mkf 41 [(0, .top), (1, .top), (4, p1.1), (5, .top), (13, .top), (14, .top), (15, .top)]) p1.2
theorem e118_r0 (cf : CallF) (a0 : D) (a1 : D) (a4 : D) (a5 : D) (a13 : D) (a14 : D) (a15 : D) (S : Store) (Q : Ex → List D → Store → Prop) : wp cf c118_r0 (mkf 41 [(0, a0), (1, a1), (4, a4), (5, a5), (13, a13), (14, a14), (15, a15)]) S Q = s118_r0 cf a0 a1 a4 a5 a13 a14 a15 S Q := wpS_of (by kernel_rfl)
def s118_0 (cf : CallF) (a0 : D) (a1 : D) (a4 : D) (a5 : D) (a13 : D) (a14 : D) (a15 : D) (S : Store) (Q : Ex → List D → Store → Prop) : Prop :=
  OX (binD .lss .num a14 a13) fun x2 =>
  WB x2
  (OX (iaD 1 a0 a14) fun x3 =>
  OX (ldD S 1 false x3) fun x4 =>
  OX (convD .u64 x4) fun x5 =>
  OX (binD .shl .num x5 a1) fun x6 =>
  OX (iaD 1 a5 a14) fun x7 =>
  OX (ldD S 1 false x7) fun x8 =>
  OX (convD .u32 x6) fun x9 =>
  OX (binD .or .num x8 x9) fun x10 =>
  OX (iaD 1 a5 a14) fun x11 =>
  OX (stD S 1 false x11 x10) fun S13 =>
  OX (binD .add .num a14 (.i .i64 1)) fun x14 =>
  OX (binD .shr .num x6 (.i .u64 32)) fun x15 =>
  OX (convD .u32 x15) fun x16 =>
  OX (iaD 1 a5 x14) fun x17 =>
  OX (stD S13 1 false x17 x16) fun S19 =>
  OX (binD .add .num a14 (.i .i64 1)) fun x20 =>
  Q .normal (mkf 41 [(0, a0), (1, a1), (4, a4), (5, a5), (13, a13), (14, x20), (15, .top)]) S19)
  (Q (.exit 0) (mkf 41 [(0, a0), (1, a1), (4, a4), (5, a5), (13, a13), (14, a14), (15, x2)]) S)
theorem e118_0 (cf : CallF) (a0 : D) (a1 : D) (a4 : D) (a5 : D) (a13 : D) (a14 : D) (a15 : D) (S : Store) (Q : Ex → List D → Store → Prop) : wp cf c118_0 (fkill (mkf 41 [(0, a0), (1, a1), (4, a4), (5, a5), (13, a13), (14, a14), (15, a15)]) []) S Q = s118_0 cf a0 a1 a4 a5 a13 a14 a15 S Q := wpS_of (by kernel_rfl)
def s118 (cf : CallF) (a0 : D) (a1 : D) (S : Store) (Post : D → Store → Prop) : Prop :=
  OX (lenD false a0) fun x21 =>
  OX (binD .add .num x21 (.i .i64 1)) fun x22 =>
  OX (mkslV 1 true [.i .u32 0] S x22) fun p24 =>
  OX (lenD false a0) fun x25 =>
  W cf (.loop [] c118_0) (mkf 41 [(0, a0), (1, a1), (4, .top), (5, p24.1), (13, x25), (14, (.i .i64 0)), (15, .top)]) p24.2 (Qblk 0 (QS cf c118_r0 (FinK [.t 4] Post)))
theorem e118 (cf : CallF) (a0 : D) (a1 : D) (S : Store) (Post : D → Store → Prop) : wp cf c118 (frame0 d118 [a0, a1]) S (FinK d118.res Post) = s118 cf a0 a1 S Post := wpS_of (by kernel_rfl)
theorem i118 (a0 : D) (a1 : D) (r : D) (ha : noRefL (stripL [a0, a1]) = true) (hr : noRef r = true) (h : s118 (call dp) (strip a0) (strip a1) [] fun d _ => stripT d = r) : isoCall (call dp) 118 [a0, a1] = some r := iso_s (f := d118) rfl ⟨rfl, by decide⟩ ha hr (by rw [← e118] at h; exact h)
theorem j118 (a0 : D) (a1 : D) (Post : D → Prop) (ha : noRefL (stripL [a0, a1]) = true) (hr : ∀ r, Post r → noRef r = true) (h : s118 (call dp) (strip a0) (strip a1) [] fun d _ => Post (stripT d)) : ∃ r, isoCall (call dp) 118 [a0, a1] = some r ∧ Post r := iso_x (f := d118) rfl ⟨rfl, by decide⟩ ha hr (by rw [← e118] at h; exact h)
theorem f118 (a0 : D) (a1 : D) (S : Store) (Post : D → Store → Prop) (h : s118 (call dp) a0 a1 S Post) : ∃ r S', call dp 118 [a0, a1] S = some (r, S') ∧ Post r S' := call_s (f := d118) rfl ⟨rfl, by decide⟩ (by rw [← e118] at h; exact h)

/-! lineage/bignat.right -/
def s119_r0 (cf : CallF) (a0 : D) (a1 : D) (a4 : D) (a5 : D) (a12 : D) (a13 : D) (a14 : D) (S : Store) (Q : Ex → List D → Store → Prop) : Prop :=
  OX (fzD a5 S) fun p1 =>
  Q .ret (mkf 44 [(0, .top), (1, .top), (4, p1.1), (5, .top), (12, .top), (13, .top), (14, .top)]) p1.2
theorem e119_r0 (cf : CallF) (a0 : D) (a1 : D) (a4 : D) (a5 : D) (a12 : D) (a13 : D) (a14 : D) (S : Store) (Q : Ex → List D → Store → Prop) : wp cf c119_r0 (mkf 44 [(0, a0), (1, a1), (4, a4), (5, a5), (12, a12), (13, a13), (14, a14)]) S Q = s119_r0 cf a0 a1 a4 a5 a12 a13 a14 S Q := wpS_of (by kernel_rfl)
def s119_0 (cf : CallF) (a0 : D) (a1 : D) (a4 : D) (a5 : D) (a12 : D) (a13 : D) (a14 : D) (S : Store) (Q : Ex → List D → Store → Prop) : Prop :=
  OX (binD .lss .num a13 a12) fun x2 =>
  WB x2
  (OX (iaD 1 a0 a13) fun x3 =>
  OX (ldD S 1 false x3) fun x4 =>
  OX (convD .u64 x4) fun x5 =>
  OX (binD .add .num a13 (.i .i64 1)) fun x6 =>
  OX (lenD false a0) fun x7 =>
  OX (binD .lss .num x6 x7) fun x8 =>
  jn (fun (y10 : D) (y11 : D) (y12 : D) (y13 : D) (y14 : D) (y15 : D) (y16 : D) (y17 : D) (y18 : D) (S19 : Store) =>
  OX (binD .shr .num y15 y11) fun x20 =>
  OX (convD .u32 x20) fun x21 =>
  OX (iaD 1 y13 y14) fun x22 =>
  OX (stD S19 1 false x22 x21) fun S24 =>
  OX (binD .add .num y17 (.i .i64 1)) fun x25 =>
  Q .normal (mkf 44 [(0, y10), (1, y11), (4, y12), (5, y13), (12, y16), (13, x25), (14, .top)]) S24) fun k9 =>
  WB x8
  (OX (binD .add .num a13 (.i .i64 1)) fun x26 =>
  OX (iaD 1 a0 x26) fun x27 =>
  OX (ldD S 1 false x27) fun x28 =>
  OX (convD .u64 x28) fun x29 =>
  OX (binD .shl .num x29 (.i .u64 32)) fun x30 =>
  OX (binD .or .num x5 x30) fun x31 =>
  k9 a0 a1 a4 a5 a13 x31 a12 a13 D.top S)
  (k9 a0 a1 a4 a5 a13 x5 a12 a13 x8 S))
  (Q (.exit 0) (mkf 44 [(0, a0), (1, a1), (4, a4), (5, a5), (12, a12), (13, a13), (14, x2)]) S)
theorem e119_0 (cf : CallF) (a0 : D) (a1 : D) (a4 : D) (a5 : D) (a12 : D) (a13 : D) (a14 : D) (S : Store) (Q : Ex → List D → Store → Prop) : wp cf c119_0 (fkill (mkf 44 [(0, a0), (1, a1), (4, a4), (5, a5), (12, a12), (13, a13), (14, a14)]) []) S Q = s119_0 cf a0 a1 a4 a5 a12 a13 a14 S Q := wpS_of (by kernel_rfl)
def s119 (cf : CallF) (a0 : D) (a1 : D) (S : Store) (Post : D → Store → Prop) : Prop :=
  OX (lenD false a0) fun x32 =>
  OX (mkslV 1 true [.i .u32 0] S x32) fun p34 =>
  OX (lenD false a0) fun x35 =>
  W cf (.loop [] c119_0) (mkf 44 [(0, a0), (1, a1), (4, .top), (5, p34.1), (12, x35), (13, (.i .i64 0)), (14, .top)]) p34.2 (Qblk 0 (QS cf c119_r0 (FinK [.t 4] Post)))
theorem e119 (cf : CallF) (a0 : D) (a1 : D) (S : Store) (Post : D → Store → Prop) : wp cf c119 (frame0 d119 [a0, a1]) S (FinK d119.res Post) = s119 cf a0 a1 S Post := wpS_of (by kernel_rfl)
theorem i119 (a0 : D) (a1 : D) (r : D) (ha : noRefL (stripL [a0, a1]) = true) (hr : noRef r = true) (h : s119 (call dp) (strip a0) (strip a1) [] fun d _ => stripT d = r) : isoCall (call dp) 119 [a0, a1] = some r := iso_s (f := d119) rfl ⟨rfl, by decide⟩ ha hr (by rw [← e119] at h; exact h)
theorem j119 (a0 : D) (a1 : D) (Post : D → Prop) (ha : noRefL (stripL [a0, a1]) = true) (hr : ∀ r, Post r → noRef r = true) (h : s119 (call dp) (strip a0) (strip a1) [] fun d _ => Post (stripT d)) : ∃ r, isoCall (call dp) 119 [a0, a1] = some r ∧ Post r := iso_x (f := d119) rfl ⟨rfl, by decide⟩ ha hr (by rw [← e119] at h; exact h)
theorem f119 (a0 : D) (a1 : D) (S : Store) (Post : D → Store → Prop) (h : s119 (call dp) a0 a1 S Post) : ∃ r S', call dp 119 [a0, a1] S = some (r, S') ∧ Post r S' := call_s (f := d119) rfl ⟨rfl, by decide⟩ (by rw [← e119] at h; exact h)

/-! lineage/bignat.Shift -/
def s76 (cf : CallF) (a0 : D) (a1 : D) (S : Store) (Post : D → Store → Prop) : Prop :=
  OX (isoCall cf 79 [a0]) fun x1 =>
  OX (unD .not x1) fun x2 =>
  WB x2
  (Post (.tup [(.sl 1 true [] .ro), (.i .i64 1)]) S)
  (OX (lenD false a0) fun x3 =>
  OX (binD .eql .num x3 (.i .i64 0)) fun x4 =>
  OX (gsel x4 false (some a1)) fun x5 =>
  OX (gsel x4 false (binD .lss .num x5 (.i .i64 (-4096)))) fun x6 =>
  OX (pickD x4 (.b true) x6) fun x7 =>
  WB x7
  (Post (.tup [(.sl 1 true [] .ro), (.i .i64 0)]) S)
  (OX (binD .gtr .num a1 (.i .i64 4096)) fun x8 =>
  WB x8
  (Post (.tup [(.sl 1 true [] .ro), (.i .i64 6)]) S)
  (OX (binD .geq .num a1 (.i .i64 0)) fun x9 =>
  WB x9
  (OX (binD .quo .num a1 (.i .i64 32)) fun x10 =>
  OX (binD .rem .num a1 (.i .i64 32)) fun x11 =>
  OX (isoCall cf 118 [a0, x11]) fun x12 =>
  OX (mkslV 1 false [.i .u32 0] S x10) fun p14 =>
  OX (appD 1 false p14.1 x12 p14.2) fun p16 =>
  OX (isoCall cf 117 [p16.1]) fun x17 =>
  OX (extD x17 0) fun x18 =>
  OX (extD x17 1) fun x19 =>
  Post (.tup [x18, x19]) p16.2)
  (OX (unD .neg a1) fun x20 =>
  OX (binD .quo .num x20 (.i .i64 32)) fun x21 =>
  OX (lenD false a0) fun x22 =>
  OX (binD .geq .num x21 x22) fun x23 =>
  WB x23
  (Post (.tup [(.sl 1 true [] .ro), (.i .i64 0)]) S)
  (OX (binD .quo .num x20 (.i .i64 32)) fun x24 =>
  OX (slcD 1 a0 (some x24) none) fun x25 =>
  OX (binD .rem .num x20 (.i .i64 32)) fun x26 =>
  OX (isoCall cf 119 [x25, x26]) fun x27 =>
  OX (isoCall cf 116 [x27]) fun x28 =>
  Post (.tup [x28, (.i .i64 0)]) S)))))
theorem e76 (cf : CallF) (a0 : D) (a1 : D) (S : Store) (Post : D → Store → Prop) : wp cf c76 (frame0 d76 [a0, a1]) S (FinK d76.res Post) = s76 cf a0 a1 S Post := wpS_of (by kernel_rfl)
theorem i76 (a0 : D) (a1 : D) (r : D) (ha : noRefL (stripL [a0, a1]) = true) (hr : noRef r = true) (h : s76 (call dp) (strip a0) (strip a1) [] fun d _ => stripT d = r) : isoCall (call dp) 76 [a0, a1] = some r := iso_s (f := d76) rfl ⟨rfl, by decide⟩ ha hr (by rw [← e76] at h; exact h)
theorem j76 (a0 : D) (a1 : D) (Post : D → Prop) (ha : noRefL (stripL [a0, a1]) = true) (hr : ∀ r, Post r → noRef r = true) (h : s76 (call dp) (strip a0) (strip a1) [] fun d _ => Post (stripT d)) : ∃ r, isoCall (call dp) 76 [a0, a1] = some r ∧ Post r := iso_x (f := d76) rfl ⟨rfl, by decide⟩ ha hr (by rw [← e76] at h; exact h)
theorem f76 (a0 : D) (a1 : D) (S : Store) (Post : D → Store → Prop) (h : s76 (call dp) a0 a1 S Post) : ∃ r S', call dp 76 [a0, a1] S = some (r, S') ∧ Post r S' := call_s (f := d76) rfl ⟨rfl, by decide⟩ (by rw [← e76] at h; exact h)

/-! lineage/bignat.limbAt -/
def s120 (cf : CallF) (a0 : D) (S : Store) (Post : D → Store → Prop) : Prop :=
  bxx 1 false a0 S fun x1 S2 =>
  Post (.fn 173 [x1]) S2
theorem e120 (cf : CallF) (a0 : D) (S : Store) (Post : D → Store → Prop) : wp cf c120 (frame0 d120 [a0]) S (FinK d120.res Post) = s120 cf a0 S Post := wpS_of (by kernel_rfl)
theorem i120 (a0 : D) (r : D) (ha : noRefL (stripL [a0]) = true) (hr : noRef r = true) (h : s120 (call dp) (strip a0) [] fun d _ => stripT d = r) : isoCall (call dp) 120 [a0] = some r := iso_s (f := d120) rfl ⟨rfl, by decide⟩ ha hr (by rw [← e120] at h; exact h)
theorem j120 (a0 : D) (Post : D → Prop) (ha : noRefL (stripL [a0]) = true) (hr : ∀ r, Post r → noRef r = true) (h : s120 (call dp) (strip a0) [] fun d _ => Post (stripT d)) : ∃ r, isoCall (call dp) 120 [a0] = some r ∧ Post r := iso_x (f := d120) rfl ⟨rfl, by decide⟩ ha hr (by rw [← e120] at h; exact h)
theorem f120 (a0 : D) (S : Store) (Post : D → Store → Prop) (h : s120 (call dp) a0 S Post) : ∃ r S', call dp 120 [a0] S = some (r, S') ∧ Post r S' := call_s (f := d120) rfl ⟨rfl, by decide⟩ (by rw [← e120] at h; exact h)

/-! lineage/bignat.limbAt$1 -/
def s173 (cf : CallF) (a0 : D) (a1 : D) (S : Store) (Post : D → Store → Prop) : Prop :=
  OX (ldD S 1 false a1) fun x1 =>
  OX (lenD false x1) fun x2 =>
  OX (binD .geq .num a0 x2) fun x3 =>
  WB x3
  (Post (.i .u32 0) S)
  (OX (ldD S 1 false a1) fun x4 =>
  OX (iaD 1 x4 a0) fun x5 =>
  OX (ldD S 1 false x5) fun x6 =>
  Post x6 S)
theorem e173 (cf : CallF) (a0 : D) (a1 : D) (S : Store) (Post : D → Store → Prop) : wp cf c173 (frame0 d173 [a0, a1]) S (FinK d173.res Post) = s173 cf a0 a1 S Post := wpS_of (by kernel_rfl)
theorem i173 (a0 : D) (a1 : D) (r : D) (ha : noRefL (stripL [a0, a1]) = true) (hr : noRef r = true) (h : s173 (call dp) (strip a0) (strip a1) [] fun d _ => stripT d = r) : isoCall (call dp) 173 [a0, a1] = some r := iso_s (f := d173) rfl ⟨rfl, by decide⟩ ha hr (by rw [← e173] at h; exact h)
theorem j173 (a0 : D) (a1 : D) (Post : D → Prop) (ha : noRefL (stripL [a0, a1]) = true) (hr : ∀ r, Post r → noRef r = true) (h : s173 (call dp) (strip a0) (strip a1) [] fun d _ => Post (stripT d)) : ∃ r, isoCall (call dp) 173 [a0, a1] = some r ∧ Post r := iso_x (f := d173) rfl ⟨rfl, by decide⟩ ha hr (by rw [← e173] at h; exact h)
theorem f173 (a0 : D) (a1 : D) (S : Store) (Post : D → Store → Prop) (h : s173 (call dp) a0 a1 S Post) : ∃ r S', call dp 173 [a0, a1] S = some (r, S') ∧ Post r S' := call_s (f := d173) rfl ⟨rfl, by decide⟩ (by rw [← e173] at h; exact h)

/-! math/bits.Add32 -/
def s121 (cf : CallF) (a0 : D) (a1 : D) (a2 : D) (S : Store) (Post : D → Store → Prop) : Prop :=
  OX (convD .u64 a0) fun x1 =>
  OX (convD .u64 a1) fun x2 =>
  OX (binD .add .num x1 x2) fun x3 =>
  OX (convD .u64 a2) fun x4 =>
  OX (binD .add .num x3 x4) fun x5 =>
  OX (convD .u32 x5) fun x6 =>
  OX (binD .shr .num x5 (.i .u64 32)) fun x7 =>
  OX (convD .u32 x7) fun x8 =>
  Post (.tup [x6, x8]) S
theorem e121 (cf : CallF) (a0 : D) (a1 : D) (a2 : D) (S : Store) (Post : D → Store → Prop) : wp cf c121 (frame0 d121 [a0, a1, a2]) S (FinK d121.res Post) = s121 cf a0 a1 a2 S Post := wpS_of (by kernel_rfl)
theorem i121 (a0 : D) (a1 : D) (a2 : D) (r : D) (ha : noRefL (stripL [a0, a1, a2]) = true) (hr : noRef r = true) (h : s121 (call dp) (strip a0) (strip a1) (strip a2) [] fun d _ => stripT d = r) : isoCall (call dp) 121 [a0, a1, a2] = some r := iso_s (f := d121) rfl ⟨rfl, by decide⟩ ha hr (by rw [← e121] at h; exact h)
theorem j121 (a0 : D) (a1 : D) (a2 : D) (Post : D → Prop) (ha : noRefL (stripL [a0, a1, a2]) = true) (hr : ∀ r, Post r → noRef r = true) (h : s121 (call dp) (strip a0) (strip a1) (strip a2) [] fun d _ => Post (stripT d)) : ∃ r, isoCall (call dp) 121 [a0, a1, a2] = some r ∧ Post r := iso_x (f := d121) rfl ⟨rfl, by decide⟩ ha hr (by rw [← e121] at h; exact h)
theorem f121 (a0 : D) (a1 : D) (a2 : D) (S : Store) (Post : D → Store → Prop) (h : s121 (call dp) a0 a1 a2 S Post) : ∃ r S', call dp 121 [a0, a1, a2] S = some (r, S') ∧ Post r S' := call_s (f := d121) rfl ⟨rfl, by decide⟩ (by rw [← e121] at h; exact h)

/-! lineage/bignat.Add -/
def s78_r0 (cf : CallF) (a4 : D) (a5 : D) (a6 : D) (a7 : D) (a8 : D) (a9 : D) (a31 : D) (a32 : D) (a33 : D) (S : Store) (Q : Ex → List D → Store → Prop) : Prop :=
  OX (fzD a8 S) fun p1 =>
  OX (isoCall cf 117 [p1.1]) fun x2 =>
  OX (extD x2 0) fun x3 =>
  OX (extD x2 1) fun x4 =>
  Q .ret (mkf 54 [(4, x3), (5, x4), (6, .top), (7, .top), (8, .top), (9, .top), (31, .top), (32, .top), (33, .top)]) p1.2
theorem e78_r0 (cf : CallF) (a4 : D) (a5 : D) (a6 : D) (a7 : D) (a8 : D) (a9 : D) (a31 : D) (a32 : D) (a33 : D) (S : Store) (Q : Ex → List D → Store → Prop) : wp cf c78_r0 (mkf 54 [(4, a4), (5, a5), (6, a6), (7, a7), (8, a8), (9, a9), (31, a31), (32, a32), (33, a33)]) S Q = s78_r0 cf a4 a5 a6 a7 a8 a9 a31 a32 a33 S Q := wpS_of (by kernel_rfl)
def s78_0 (cf : CallF) (a4 : D) (a5 : D) (a6 : D) (a7 : D) (a8 : D) (a9 : D) (a31 : D) (a32 : D) (a33 : D) (S : Store) (Q : Ex → List D → Store → Prop) : Prop :=
  OX (binD .lss .num a32 a31) fun x5 =>
  WB x5
  (OX (fnD a6) fun q7 => OX (cf q7.1 ([a32] ++ q7.2) S) fun p8 =>
  OX (fnD a7) fun q10 => OX (cf q10.1 ([a32] ++ q10.2) p8.2) fun p11 =>
  OX (isoCall cf 121 [p8.1, p11.1, a9]) fun x12 =>
  OX (extD x12 0) fun x13 =>
  OX (extD x12 1) fun x14 =>
  OX (iaD 1 a8 a32) fun x15 =>
  OX (stD p11.2 1 false x15 x13) fun S17 =>
  OX (binD .add .num a32 (.i .i64 1)) fun x18 =>
  Q .normal (mkf 54 [(4, a4), (5, a5), (6, a6), (7, a7), (8, a8), (9, x14), (31, a31), (32, x18), (33, .top)]) S17)
  (Q (.exit 0) (mkf 54 [(4, a4), (5, a5), (6, a6), (7, a7), (8, a8), (9, a9), (31, a31), (32, a32), (33, x5)]) S)
theorem e78_0 (cf : CallF) (a4 : D) (a5 : D) (a6 : D) (a7 : D) (a8 : D) (a9 : D) (a31 : D) (a32 : D) (a33 : D) (S : Store) (Q : Ex → List D → Store → Prop) : wp cf c78_0 (fkill (mkf 54 [(4, a4), (5, a5), (6, a6), (7, a7), (8, a8), (9, a9), (31, a31), (32, a32), (33, a33)]) []) S Q = s78_0 cf a4 a5 a6 a7 a8 a9 a31 a32 a33 S Q := wpS_of (by kernel_rfl)
def s78 (cf : CallF) (a0 : D) (a1 : D) (S : Store) (Post : D → Store → Prop) : Prop :=
  OX (isoCall cf 79 [a0]) fun x19 =>
  OX (unD .not x19) fun x20 =>
  OX (gsel x20 false (some a1)) fun x21 =>
  OX (gsel x20 false (isoCall cf 79 [x21])) fun x22 =>
  OX (gsel x20 false (unD .not x22)) fun x23 =>
  OX (pickD x20 (.b true) x23) fun x24 =>
  WB x24
  (Post (.tup [(.sl 1 true [] .ro), (.i .i64 1)]) S)
  (OX (cf 120 [a0] S) fun p26 =>
  OX (cf 120 [a1] p26.2) fun p28 =>
  OX (lenD false a0) fun x29 =>
  OX (lenD false a1) fun x30 =>
  OX (mxD x29 x30) fun x31 =>
  OX (binD .add .num x31 (.i .i64 1)) fun x32 =>
  OX (mkslV 1 true [.i .u32 0] p28.2 x32) fun p34 =>
  OX (lenD false p34.1) fun x35 =>
  W cf (.loop [] c78_0) (mkf 54 [(4, .top), (5, .top), (6, p26.1), (7, p28.1), (8, p34.1), (9, (.i .u32 0)), (31, x35), (32, (.i .i64 0)), (33, .top)]) p34.2 (Qblk 0 (QS cf c78_r0 (FinK [.t 4, .t 5] Post))))
theorem e78 (cf : CallF) (a0 : D) (a1 : D) (S : Store) (Post : D → Store → Prop) : wp cf c78 (frame0 d78 [a0, a1]) S (FinK d78.res Post) = s78 cf a0 a1 S Post := wpS_of (by kernel_rfl)
theorem i78 (a0 : D) (a1 : D) (r : D) (ha : noRefL (stripL [a0, a1]) = true) (hr : noRef r = true) (h : s78 (call dp) (strip a0) (strip a1) [] fun d _ => stripT d = r) : isoCall (call dp) 78 [a0, a1] = some r := iso_s (f := d78) rfl ⟨rfl, by decide⟩ ha hr (by rw [← e78] at h; exact h)
theorem j78 (a0 : D) (a1 : D) (Post : D → Prop) (ha : noRefL (stripL [a0, a1]) = true) (hr : ∀ r, Post r → noRef r = true) (h : s78 (call dp) (strip a0) (strip a1) [] fun d _ => Post (stripT d)) : ∃ r, isoCall (call dp) 78 [a0, a1] = some r ∧ Post r := iso_x (f := d78) rfl ⟨rfl, by decide⟩ ha hr (by rw [← e78] at h; exact h)
theorem f78 (a0 : D) (a1 : D) (S : Store) (Post : D → Store → Prop) (h : s78 (call dp) a0 a1 S Post) : ∃ r S', call dp 78 [a0, a1] S = some (r, S') ∧ Post r S' := call_s (f := d78) rfl ⟨rfl, by decide⟩ (by rw [← e78] at h; exact h)

/-! lineage/bignat.Uint -/
def s36_r0 (cf : CallF) (a0 : D) (a2 : D) (a3 : D) (a4 : D) (a15 : D) (a16 : D) (a17 : D) (S : Store) (Q : Ex → List D → Store → Prop) : Prop :=
  Q .ret (mkf 31 [(0, .top), (2, a4), (3, (.b true)), (4, .top), (15, .top), (16, .top), (17, .top)]) S
theorem e36_r0 (cf : CallF) (a0 : D) (a2 : D) (a3 : D) (a4 : D) (a15 : D) (a16 : D) (a17 : D) (S : Store) (Q : Ex → List D → Store → Prop) : wp cf c36_r0 (mkf 31 [(0, a0), (2, a2), (3, a3), (4, a4), (15, a15), (16, a16), (17, a17)]) S Q = s36_r0 cf a0 a2 a3 a4 a15 a16 a17 S Q := wpS_of (by kernel_rfl)
def s36_0 (cf : CallF) (a0 : D) (a2 : D) (a3 : D) (a4 : D) (a15 : D) (a16 : D) (a17 : D) (S : Store) (Q : Ex → List D → Store → Prop) : Prop :=
  OX (binD .lss .num a16 a15) fun x1 =>
  WB x1
  (OX (iaD 1 a0 a16) fun x2 =>
  OX (ldD S 1 false x2) fun x3 =>
  OX (convD .u64 x3) fun x4 =>
  OX (binD .mul .num (.i .i64 32) a16) fun x5 =>
  OX (binD .shl .num x4 x5) fun x6 =>
  OX (binD .or .num a4 x6) fun x7 =>
  OX (binD .add .num a16 (.i .i64 1)) fun x8 =>
  Q .normal (mkf 31 [(0, a0), (2, a2), (3, a3), (4, x7), (15, a15), (16, x8), (17, .top)]) S)
  (Q (.exit 0) (mkf 31 [(0, a0), (2, a2), (3, a3), (4, a4), (15, a15), (16, a16), (17, x1)]) S)
theorem e36_0 (cf : CallF) (a0 : D) (a2 : D) (a3 : D) (a4 : D) (a15 : D) (a16 : D) (a17 : D) (S : Store) (Q : Ex → List D → Store → Prop) : wp cf c36_0 (fkill (mkf 31 [(0, a0), (2, a2), (3, a3), (4, a4), (15, a15), (16, a16), (17, a17)]) []) S Q = s36_0 cf a0 a2 a3 a4 a15 a16 a17 S Q := wpS_of (by kernel_rfl)
def s36 (cf : CallF) (a0 : D) (S : Store) (Post : D → Store → Prop) : Prop :=
  OX (isoCall cf 79 [a0]) fun x9 =>
  OX (unD .not x9) fun x10 =>
  OX (gsel x10 false (some a0)) fun x11 =>
  OX (gsel x10 false (lenD false x11)) fun x12 =>
  OX (gsel x10 false (binD .gtr .num x12 (.i .i64 2))) fun x13 =>
  OX (pickD x10 (.b true) x13) fun x14 =>
  WB x14
  (Post (.tup [(.i .u64 0), (.b false)]) S)
  (OX (lenD false a0) fun x15 =>
  W cf (.loop [] c36_0) (mkf 31 [(0, a0), (2, .top), (3, .top), (4, (.i .u64 0)), (15, x15), (16, (.i .i64 0)), (17, .top)]) S (Qblk 0 (QS cf c36_r0 (FinK [.t 2, .t 3] Post))))
theorem e36 (cf : CallF) (a0 : D) (S : Store) (Post : D → Store → Prop) : wp cf c36 (frame0 d36 [a0]) S (FinK d36.res Post) = s36 cf a0 S Post := wpS_of (by kernel_rfl)
theorem i36 (a0 : D) (r : D) (ha : noRefL (stripL [a0]) = true) (hr : noRef r = true) (h : s36 (call dp) (strip a0) [] fun d _ => stripT d = r) : isoCall (call dp) 36 [a0] = some r := iso_s (f := d36) rfl ⟨rfl, by decide⟩ ha hr (by rw [← e36] at h; exact h)
theorem j36 (a0 : D) (Post : D → Prop) (ha : noRefL (stripL [a0]) = true) (hr : ∀ r, Post r → noRef r = true) (h : s36 (call dp) (strip a0) [] fun d _ => Post (stripT d)) : ∃ r, isoCall (call dp) 36 [a0] = some r ∧ Post r := iso_x (f := d36) rfl ⟨rfl, by decide⟩ ha hr (by rw [← e36] at h; exact h)
theorem f36 (a0 : D) (S : Store) (Post : D → Store → Prop) (h : s36 (call dp) a0 S Post) : ∃ r S', call dp 36 [a0] S = some (r, S') ∧ Post r S' := call_s (f := d36) rfl ⟨rfl, by decide⟩ (by rw [← e36] at h; exact h)

/-! lineage/bdd.Models -/
def s35_r0 (cf : CallF) (a1 : D) (a2 : D) (a3 : D) (a4 : D) (a19 : D) (a20 : D) (a21 : D) (a22 : D) (S : Store) (Q : Ex → List D → Store → Prop) : Prop :=
  OX (faD 2 a1) fun x1 =>
  OX (ldD S 1 false x1) fun x2 =>
  OX (iaD 1 a4 x2) fun x3 =>
  OX (ldD S 1 false x3) fun x4 =>
  OX (ldD S 3 true a1) fun x5 =>
  OX (faD 2 a1) fun x6 =>
  OX (ldD S 1 false x6) fun x7 =>
  OX (isoCall cf 77 [x5, x7]) fun x8 =>
  OX (isoCall cf 76 [x4, x8]) fun x9 =>
  OX (extD x9 0) fun x10 =>
  OX (extD x9 1) fun x11 =>
  Q .ret (mkf 82 [(1, .top), (2, x10), (3, x11), (4, .top), (19, .top), (20, .top), (21, .top), (22, .top)]) S
theorem e35_r0 (cf : CallF) (a1 : D) (a2 : D) (a3 : D) (a4 : D) (a19 : D) (a20 : D) (a21 : D) (a22 : D) (S : Store) (Q : Ex → List D → Store → Prop) : wp cf c35_r0 (mkf 82 [(1, a1), (2, a2), (3, a3), (4, a4), (19, a19), (20, a20), (21, a21), (22, a22)]) S Q = s35_r0 cf a1 a2 a3 a4 a19 a20 a21 a22 S Q := wpS_of (by kernel_rfl)
def s35_0 (cf : CallF) (a1 : D) (a2 : D) (a3 : D) (a4 : D) (a19 : D) (a20 : D) (a21 : D) (a22 : D) (S : Store) (Q : Ex → List D → Store → Prop) : Prop :=
  OX (binD .lss .num a21 a20) fun x12 =>
  WB x12
  (OX (iaD 3 a19 a21) fun x13 =>
  OX (ldD S 3 true x13) fun x14 =>
  al [.i .i64 0, .i .i64 0, .i .i64 0] S fun x15 S16 =>
  OX (stD S16 3 true x15 x14) fun S18 =>
  OX (faD 1 x15) fun x19 =>
  OX (ldD S18 1 false x19) fun x20 =>
  OX (iaD 1 a4 x20) fun x21 =>
  OX (ldD S18 1 false x21) fun x22 =>
  OX (ldD S18 3 true a1) fun x23 =>
  OX (faD 1 x15) fun x24 =>
  OX (ldD S18 1 false x24) fun x25 =>
  OX (isoCall cf 77 [x23, x25]) fun x26 =>
  OX (faD 0 x15) fun x27 =>
  OX (ldD S18 1 false x27) fun x28 =>
  OX (binD .sub .num x26 x28) fun x29 =>
  OX (binD .sub .num x29 (.i .i64 1)) fun x30 =>
  OX (isoCall cf 76 [x22, x30]) fun x31 =>
  OX (extD x31 0) fun x32 =>
  OX (extD x31 1) fun x33 =>
  OX (faD 2 x15) fun x34 =>
  OX (ldD S18 1 false x34) fun x35 =>
  OX (iaD 1 a4 x35) fun x36 =>
  OX (ldD S18 1 false x36) fun x37 =>
  OX (ldD S18 3 true a1) fun x38 =>
  OX (faD 2 x15) fun x39 =>
  OX (ldD S18 1 false x39) fun x40 =>
  OX (isoCall cf 77 [x38, x40]) fun x41 =>
  OX (faD 0 x15) fun x42 =>
  OX (ldD S18 1 false x42) fun x43 =>
  OX (binD .sub .num x41 x43) fun x44 =>
  OX (binD .sub .num x44 (.i .i64 1)) fun x45 =>
  OX (isoCall cf 76 [x37, x45]) fun x46 =>
  OX (extD x46 0) fun x47 =>
  OX (extD x46 1) fun x48 =>
  OX (isoCall cf 78 [x32, x47]) fun x49 =>
  OX (extD x49 0) fun x50 =>
  OX (extD x49 1) fun x51 =>
  OX (cellsV 1 false [x50]) fun x52 =>
  OX (appD 1 false a4 (.sl 1 false x52 .ro) S18) fun p54 =>
  OX (binD .add .num a21 (.i .i64 1)) fun x55 =>
  Q .normal (mkf 82 [(1, a1), (2, a2), (3, a3), (4, p54.1), (19, a19), (20, a20), (21, x55), (22, .top)]) p54.2)
  (Q (.exit 0) (mkf 82 [(1, a1), (2, a2), (3, a3), (4, a4), (19, a19), (20, a20), (21, a21), (22, x12)]) S)
theorem e35_0 (cf : CallF) (a1 : D) (a2 : D) (a3 : D) (a4 : D) (a19 : D) (a20 : D) (a21 : D) (a22 : D) (S : Store) (Q : Ex → List D → Store → Prop) : wp cf c35_0 (fkill (mkf 82 [(1, a1), (2, a2), (3, a3), (4, a4), (19, a19), (20, a20), (21, a21), (22, a22)]) []) S Q = s35_0 cf a1 a2 a3 a4 a19 a20 a21 a22 S Q := wpS_of (by kernel_rfl)
def s35 (cf : CallF) (a0 : D) (S : Store) (Post : D → Store → Prop) : Prop :=
  bxx 3 true a0 S fun x56 S57 =>
  OX (ldD S57 3 true x56) fun x58 =>
  OX (isoCall cf 33 [x58]) fun x59 =>
  OX (unD .not x59) fun x60 =>
  WB x60
  (Post (.tup [(.sl 1 true [] .ro), (.i .i64 1)]) S57)
  (OX (isoCall cf 75 [(.i .u64 1)]) fun x61 =>
  OX (cellsV 1 false [(.sl 1 true [] .ro), x61]) fun x62 =>
  OX (faD 1 x56) fun x63 =>
  OX (ldD (bslO 1 x62 S57).2 1 false x63) fun x64 =>
  OX (lenD false x64) fun x65 =>
  W cf (.loop [] c35_0) (mkf 82 [(1, x56), (2, .top), (3, .top), (4, (bslO 1 x62 S57).1), (19, x64), (20, x65), (21, (.i .i64 0)), (22, .top)]) (bslO 1 x62 S57).2 (Qblk 0 (QS cf c35_r0 (FinK [.t 2, .t 3] Post))))
theorem e35 (cf : CallF) (a0 : D) (S : Store) (Post : D → Store → Prop) : wp cf c35 (frame0 d35 [a0]) S (FinK d35.res Post) = s35 cf a0 S Post := wpS_of (by kernel_rfl)
theorem i35 (a0 : D) (r : D) (ha : noRefL (stripL [a0]) = true) (hr : noRef r = true) (h : s35 (call dp) (strip a0) [] fun d _ => stripT d = r) : isoCall (call dp) 35 [a0] = some r := iso_s (f := d35) rfl ⟨rfl, by decide⟩ ha hr (by rw [← e35] at h; exact h)
theorem j35 (a0 : D) (Post : D → Prop) (ha : noRefL (stripL [a0]) = true) (hr : ∀ r, Post r → noRef r = true) (h : s35 (call dp) (strip a0) [] fun d _ => Post (stripT d)) : ∃ r, isoCall (call dp) 35 [a0] = some r ∧ Post r := iso_x (f := d35) rfl ⟨rfl, by decide⟩ ha hr (by rw [← e35] at h; exact h)
theorem f35 (a0 : D) (S : Store) (Post : D → Store → Prop) (h : s35 (call dp) a0 S Post) : ∃ r S', call dp 35 [a0] S = some (r, S') ∧ Post r S' := call_s (f := d35) rfl ⟨rfl, by decide⟩ (by rw [← e35] at h; exact h)

/-! lineage/lineagelaw11.BddModels -/
def s6_r0 (cf : CallF) (a1 : D) (a2 : D) (a3 : D) (a4 : D) (a5 : D) (a38 : D) (a39 : D) (a40 : D) (a41 : D) (S : Store) (Q : Ex → List D → Store → Prop) : Prop :=
  OX (isoCall cf 36 [a3]) fun x1 =>
  OX (extD x1 0) fun x2 =>
  OX (extD x1 1) fun x3 =>
  OX (ldD S 3 true a1) fun x4 =>
  OX (isoCall cf 23 [x4]) fun x5 =>
  OX (isoCall cf 35 [x5]) fun x6 =>
  OX (extD x6 0) fun x7 =>
  OX (extD x6 1) fun x8 =>
  OX (isoCall cf 36 [x7]) fun x9 =>
  OX (extD x9 0) fun x10 =>
  OX (extD x9 1) fun x11 =>
  OX (binD .eql .num a4 (.i .i64 0)) fun x12 =>
  OX (gsel x12 true (some x8)) fun x13 =>
  OX (gsel x12 true (binD .eql .num x13 (.i .i64 0))) fun x14 =>
  OX (pickD x12 x14 (.b false)) fun x15 =>
  OX (gsel x15 true (some x3)) fun x16 =>
  OX (pickD x15 x16 (.b false)) fun x17 =>
  OX (gsel x17 true (some x11)) fun x18 =>
  OX (pickD x17 x18 (.b false)) fun x19 =>
  OX (gsel x19 true (some x2)) fun x20 =>
  OX (gsel x19 true (some a5)) fun x21 =>
  OX (gsel x19 true (binD .eql .num x20 x21)) fun x22 =>
  OX (pickD x19 x22 (.b false)) fun x23 =>
  OX (gsel x23 true (some x2)) fun x24 =>
  OX (gsel x23 true (some x10)) fun x25 =>
  OX (gsel x23 true (binD .add .num x24 x25)) fun x26 =>
  OX (gsel x23 true (faD 0 a1)) fun x27 =>
  OX (gsel x23 true (ldD S 1 false x27)) fun x28 =>
  OX (gsel x23 true (lenD false x28)) fun x29 =>
  OX (gsel x23 true (binD .shl .num (.i .u64 1) x29)) fun x30 =>
  OX (gsel x23 true (binD .eql .num x26 x30)) fun x31 =>
  OX (pickD x23 x31 (.b false)) fun x32 =>
  Q .ret (mkf 91 [(1, .top), (2, x32), (3, .top), (4, .top), (5, .top), (38, .top), (39, .top), (40, .top), (41, .top)]) S
theorem e6_r0 (cf : CallF) (a1 : D) (a2 : D) (a3 : D) (a4 : D) (a5 : D) (a38 : D) (a39 : D) (a40 : D) (a41 : D) (S : Store) (Q : Ex → List D → Store → Prop) : wp cf c6_r0 (mkf 91 [(1, a1), (2, a2), (3, a3), (4, a4), (5, a5), (38, a38), (39, a39), (40, a40), (41, a41)]) S Q = s6_r0 cf a1 a2 a3 a4 a5 a38 a39 a40 a41 S Q := wpS_of (by kernel_rfl)
def s6_0 (cf : CallF) (a1 : D) (a2 : D) (a3 : D) (a4 : D) (a5 : D) (a38 : D) (a39 : D) (a40 : D) (a41 : D) (S : Store) (Q : Ex → List D → Store → Prop) : Prop :=
  OX (binD .lss .num a40 a39) fun x33 =>
  WB x33
  (OX (iaD 1 a38 a40) fun x34 =>
  OX (ldD S 1 false x34) fun x35 =>
  jn (fun (y37 : D) (y38 : D) (y39 : D) (y40 : D) (y41 : D) (y42 : D) (y43 : D) (y44 : D) (y45 : D) (S46 : Store) =>
  OX (binD .add .num y44 (.i .i64 1)) fun x47 =>
  Q .normal (mkf 91 [(1, y37), (2, y38), (3, y39), (4, y40), (5, y41), (38, y42), (39, y43), (40, x47), (41, .top)]) S46) fun k36 =>
  WB x35
  (OX (binD .add .num a5 (.i .u64 1)) fun x48 =>
  k36 a1 a2 a3 a4 x48 a38 a39 a40 D.top S)
  (k36 a1 a2 a3 a4 a5 a38 a39 a40 x35 S))
  (Q (.exit 0) (mkf 91 [(1, a1), (2, a2), (3, a3), (4, a4), (5, a5), (38, a38), (39, a39), (40, a40), (41, x33)]) S)
theorem e6_0 (cf : CallF) (a1 : D) (a2 : D) (a3 : D) (a4 : D) (a5 : D) (a38 : D) (a39 : D) (a40 : D) (a41 : D) (S : Store) (Q : Ex → List D → Store → Prop) : wp cf c6_0 (fkill (mkf 91 [(1, a1), (2, a2), (3, a3), (4, a4), (5, a5), (38, a38), (39, a39), (40, a40), (41, a41)]) []) S Q = s6_0 cf a1 a2 a3 a4 a5 a38 a39 a40 a41 S Q := wpS_of (by kernel_rfl)
def s6 (cf : CallF) (a0 : D) (S : Store) (Post : D → Store → Prop) : Prop :=
  bxx 3 true a0 S fun x49 S50 =>
  OX (isoCall cf 10 []) fun x51 =>
  OX (unD .not x51) fun x52 =>
  OX (gsel x52 false (ldD S50 3 true x49)) fun x53 =>
  OX (gsel x52 false (isoCall cf 11 [x53])) fun x54 =>
  OX (gsel x52 false (unD .not x54)) fun x55 =>
  OX (pickD x52 (.b true) x55) fun x56 =>
  WB x56
  (OX (isoCall cf 10 []) fun x57 =>
  Post x57 S50)
  (OX (ldD S50 3 true x49) fun x58 =>
  OX (isoCall cf 35 [x58]) fun x59 =>
  OX (extD x59 0) fun x60 =>
  OX (extD x59 1) fun x61 =>
  OX (ldD S50 3 true x49) fun x62 =>
  OX (isoCall cf 24 [x62]) fun x63 =>
  OX (unD .not x63) fun x64 =>
  WB x64
  (OX (binD .eql .num x61 (.i .i64 1)) fun x65 =>
  OX (gsel x65 true (some x60)) fun x66 =>
  OX (gsel x65 true (lenD false x66)) fun x67 =>
  OX (gsel x65 true (binD .eql .num x67 (.i .i64 0))) fun x68 =>
  OX (pickD x65 x68 (.b false)) fun x69 =>
  Post x69 S50)
  (OX (ldD S50 3 true x49) fun x70 =>
  OX (isoCall cf 25 [x70]) fun x71 =>
  OX (lenD false x71) fun x72 =>
  W cf (.loop [] c6_0) (mkf 91 [(1, x49), (2, .top), (3, x60), (4, x61), (5, (.i .u64 0)), (38, x71), (39, x72), (40, (.i .i64 0)), (41, .top)]) S50 (Qblk 0 (QS cf c6_r0 (FinK [.t 2] Post)))))
theorem e6 (cf : CallF) (a0 : D) (S : Store) (Post : D → Store → Prop) : wp cf c6 (frame0 d6 [a0]) S (FinK d6.res Post) = s6 cf a0 S Post := wpS_of (by kernel_rfl)
theorem i6 (a0 : D) (r : D) (ha : noRefL (stripL [a0]) = true) (hr : noRef r = true) (h : s6 (call dp) (strip a0) [] fun d _ => stripT d = r) : isoCall (call dp) 6 [a0] = some r := iso_s (f := d6) rfl ⟨rfl, by decide⟩ ha hr (by rw [← e6] at h; exact h)
theorem j6 (a0 : D) (Post : D → Prop) (ha : noRefL (stripL [a0]) = true) (hr : ∀ r, Post r → noRef r = true) (h : s6 (call dp) (strip a0) [] fun d _ => Post (stripT d)) : ∃ r, isoCall (call dp) 6 [a0] = some r ∧ Post r := iso_x (f := d6) rfl ⟨rfl, by decide⟩ ha hr (by rw [← e6] at h; exact h)
theorem f6 (a0 : D) (S : Store) (Post : D → Store → Prop) (h : s6 (call dp) a0 S Post) : ∃ r S', call dp 6 [a0] S = some (r, S') ∧ Post r S' := call_s (f := d6) rfl ⟨rfl, by decide⟩ (by rw [← e6] at h; exact h)

end Go.Proofs.YtjlmeikcfdanmaaGreatDoor.DE
