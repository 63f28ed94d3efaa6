/-
  THE FUNCTIONS' CODE IN THE STYLE OF WHAT COMES NEXT. PRINTED BY tools/shallow.py of this repository; each text is checked against the code.
-/
import Derived.Test.YtjlmeikcfdanmaaGreatDoorDe24
import Derived.Test.YtjlmeikcfdanmaaGreatDoorDp
import Derived.KernelRfl
namespace Go.Proofs.YtjlmeikcfdanmaaGreatDoor.DE
open Go

/-! lineage/lineageref11.Index -/
def s15_r0 (cf : CallF) (a0 : D) (a3 : D) (a4 : D) (a5 : D) (a9 : D) (S : Store) (Q : Ex → List D → Store → Prop) : Prop :=
  Q .ret (mkf 19 [(0, .top), (3, .top), (4, (.i .i64 (-1))), (5, .top), (9, .top)]) S
theorem e15_r0 (cf : CallF) (a0 : D) (a3 : D) (a4 : D) (a5 : D) (a9 : D) (S : Store) (Q : Ex → List D → Store → Prop) : wp cf c15_r0 (mkf 19 [(0, a0), (3, a3), (4, a4), (5, a5), (9, a9)]) S Q = s15_r0 cf a0 a3 a4 a5 a9 S Q := wpS_of (by kernel_rfl)
def s15_0 (cf : CallF) (a0 : D) (a3 : D) (a4 : D) (a5 : D) (a9 : D) (S : Store) (Q : Ex → List D → Store → Prop) : Prop :=
  OX (lenD false a0) fun x1 =>
  OX (binD .lss .num a5 x1) fun x2 =>
  WB x2
  (OX (iaD 2 a0 a5) fun x3 =>
  OX (ldD S 2 true x3) fun x4 =>
  OX (ldD S 2 true a3) fun x5 =>
  OX (binD .eql (.agg [.i, .i]) x4 x5) fun x6 =>
  WB x6
  (Q .ret (mkf 19 [(0, .top), (3, .top), (4, a5), (5, .top), (9, .top)]) S)
  (OX (binD .add .num a5 (.i .i64 1)) fun x7 =>
  Q .normal (mkf 19 [(0, a0), (3, a3), (4, a4), (5, x7), (9, .top)]) S))
  (Q (.exit 0) (mkf 19 [(0, a0), (3, a3), (4, a4), (5, a5), (9, x2)]) S)
theorem e15_0 (cf : CallF) (a0 : D) (a3 : D) (a4 : D) (a5 : D) (a9 : D) (S : Store) (Q : Ex → List D → Store → Prop) : wp cf c15_0 (fkill (mkf 19 [(0, a0), (3, a3), (4, a4), (5, a5), (9, a9)]) []) S Q = s15_0 cf a0 a3 a4 a5 a9 S Q := wpS_of (by kernel_rfl)
def s15 (cf : CallF) (a0 : D) (a1 : D) (S : Store) (Post : D → Store → Prop) : Prop :=
  bxx 2 true a1 S fun x8 S9 =>
  W cf (.loop [] c15_0) (mkf 19 [(0, a0), (3, x8), (4, .top), (5, (.i .i64 0)), (9, .top)]) S9 (Qblk 0 (QS cf c15_r0 (FinK [.t 4] Post)))
theorem e15 (cf : CallF) (a0 : D) (a1 : D) (S : Store) (Post : D → Store → Prop) : wp cf c15 (frame0 d15 [a0, a1]) S (FinK d15.res Post) = s15 cf a0 a1 S Post := wpS_of (by kernel_rfl)
theorem i15 (a0 : D) (a1 : D) (r : D) (ha : noRefL (stripL [a0, a1]) = true) (hr : noRef r = true) (h : s15 (call dp) (strip a0) (strip a1) [] fun d _ => stripT d = r) : isoCall (call dp) 15 [a0, a1] = some r := iso_s (f := d15) rfl ⟨rfl, by decide⟩ ha hr (by rw [← e15] at h; exact h)
theorem j15 (a0 : D) (a1 : D) (Post : D → Prop) (ha : noRefL (stripL [a0, a1]) = true) (hr : ∀ r, Post r → noRef r = true) (h : s15 (call dp) (strip a0) (strip a1) [] fun d _ => Post (stripT d)) : ∃ r, isoCall (call dp) 15 [a0, a1] = some r ∧ Post r := iso_x (f := d15) rfl ⟨rfl, by decide⟩ ha hr (by rw [← e15] at h; exact h)
theorem f15 (a0 : D) (a1 : D) (S : Store) (Post : D → Store → Prop) (h : s15 (call dp) a0 a1 S Post) : ∃ r S', call dp 15 [a0, a1] S = some (r, S') ∧ Post r S' := call_s (f := d15) rfl ⟨rfl, by decide⟩ (by rw [← e15] at h; exact h)

/-! lineage/lineageref11.FromTable -/
def s18 (cf : CallF) (a0 : D) (a1 : D) (S : Store) (Post : D → Store → Prop) : Prop :=
  al [.sl 2 true [] .ro, .sl 3 true [] .ro, .i .i64 0] S fun x1 S2 =>
  OX (lenD false a0) fun x3 =>
  OX (cellsV 3 true []) fun x4 =>
  OX (cf 53 [a1, x3, (.i .i64 0), (.i .i64 0), (bslO 3 x4 S2).1] (bslO 3 x4 S2).2) fun p6 =>
  OX (extD p6.1 0) fun x7 =>
  OX (extD p6.1 1) fun x8 =>
  OX (bldV [.sl 2 true [] .ro, .sl 3 true [] .ro, .i .i64 0] [(0, 1, false, a0), (1, 1, false, x8), (2, 1, false, x7)]) fun x9 =>
  OX (stD p6.2 3 true x1 (.agg x9)) fun S11 =>
  OX (ldc S11 3 true x1) fun x12 => Post x12 S11
theorem e18 (cf : CallF) (a0 : D) (a1 : D) (S : Store) (Post : D → Store → Prop) : wp cf c18 (frame0 d18 [a0, a1]) S (FinK d18.res Post) = s18 cf a0 a1 S Post := wpS_of (by kernel_rfl)
theorem i18 (a0 : D) (a1 : D) (r : D) (ha : noRefL (stripL [a0, a1]) = true) (hr : noRef r = true) (h : s18 (call dp) (strip a0) (strip a1) [] fun d _ => stripT d = r) : isoCall (call dp) 18 [a0, a1] = some r := iso_s (f := d18) rfl ⟨rfl, by decide⟩ ha hr (by rw [← e18] at h; exact h)
theorem j18 (a0 : D) (a1 : D) (Post : D → Prop) (ha : noRefL (stripL [a0, a1]) = true) (hr : ∀ r, Post r → noRef r = true) (h : s18 (call dp) (strip a0) (strip a1) [] fun d _ => Post (stripT d)) : ∃ r, isoCall (call dp) 18 [a0, a1] = some r ∧ Post r := iso_x (f := d18) rfl ⟨rfl, by decide⟩ ha hr (by rw [← e18] at h; exact h)
theorem f18 (a0 : D) (a1 : D) (S : Store) (Post : D → Store → Prop) (h : s18 (call dp) a0 a1 S Post) : ∃ r S', call dp 18 [a0, a1] S = some (r, S') ∧ Post r S' := call_s (f := d18) rfl ⟨rfl, by decide⟩ (by rw [← e18] at h; exact h)

/-! lineage/lineageref11.build -/
def s53_r0 (cf : CallF) (a4 : D) (a10 : D) (a11 : D) (a14 : D) (a15 : D) (a62 : D) (S : Store) (Q : Ex → List D → Store → Prop) : Prop :=
  OX (lenD false a4) fun x1 =>
  OX (binD .add .num x1 (.i .i64 2)) fun x2 =>
  OX (ldD S 3 true a14) fun x3 =>
  OX (cellsV 3 true [x3]) fun x4 =>
  OX (appD 3 false a4 (.sl 3 false x4 .ro) S) fun p6 =>
  Q .ret (mkf 81 [(4, .top), (10, x2), (11, p6.1), (14, .top), (15, .top), (62, .top)]) p6.2
theorem e53_r0 (cf : CallF) (a4 : D) (a10 : D) (a11 : D) (a14 : D) (a15 : D) (a62 : D) (S : Store) (Q : Ex → List D → Store → Prop) : wp cf c53_r0 (mkf 81 [(4, a4), (10, a10), (11, a11), (14, a14), (15, a15), (62, a62)]) S Q = s53_r0 cf a4 a10 a11 a14 a15 a62 S Q := wpS_of (by kernel_rfl)
def s53_0 (cf : CallF) (a4 : D) (a10 : D) (a11 : D) (a14 : D) (a15 : D) (a62 : D) (S : Store) (Q : Ex → List D → Store → Prop) : Prop :=
  OX (lenD false a4) fun x7 =>
  OX (binD .lss .num a15 x7) fun x8 =>
  WB x8
  (OX (iaD 3 a4 a15) fun x9 =>
  OX (ldD S 3 true x9) fun x10 =>
  OX (ldD S 3 true a14) fun x11 =>
  OX (binD .eql (.agg [.i, .i, .i]) x10 x11) fun x12 =>
  WB x12
  (OX (binD .add .num a15 (.i .i64 2)) fun x13 =>
  Q .ret (mkf 81 [(4, .top), (10, x13), (11, a4), (14, .top), (15, .top), (62, .top)]) S)
  (OX (binD .add .num a15 (.i .i64 1)) fun x14 =>
  Q .normal (mkf 81 [(4, a4), (10, a10), (11, a11), (14, a14), (15, x14), (62, .top)]) S))
  (Q (.exit 0) (mkf 81 [(4, a4), (10, a10), (11, a11), (14, a14), (15, a15), (62, x8)]) S)
theorem e53_0 (cf : CallF) (a4 : D) (a10 : D) (a11 : D) (a14 : D) (a15 : D) (a62 : D) (S : Store) (Q : Ex → List D → Store → Prop) : wp cf c53_0 (fkill (mkf 81 [(4, a4), (10, a10), (11, a11), (14, a14), (15, a15), (62, a62)]) []) S Q = s53_0 cf a4 a10 a11 a14 a15 a62 S Q := wpS_of (by kernel_rfl)
def s53 (cf : CallF) (a0 : D) (a1 : D) (a2 : D) (a3 : D) (a4 : D) (S : Store) (Post : D → Store → Prop) : Prop :=
  OX (isoCall cf 93 [a0, a1, a2, a3]) fun x15 =>
  WB x15
  (OX (iaD 1 a0 a3) fun x16 =>
  OX (ldD S 1 false x16) fun x17 =>
  WB x17
  (Post (.tup [(.i .i64 1), a4]) S)
  (Post (.tup [(.i .i64 0), a4]) S))
  (OX (binD .add .num a2 (.i .i64 1)) fun x18 =>
  OX (cf 53 [a0, a1, x18, a3, a4] S) fun p20 =>
  OX (extD p20.1 0) fun x21 =>
  OX (extD p20.1 1) fun x22 =>
  OX (binD .add .num a2 (.i .i64 1)) fun x23 =>
  OX (binD .shl .num (.i .i64 1) a2) fun x24 =>
  OX (binD .add .num a3 x24) fun x25 =>
  OX (cf 53 [a0, a1, x23, x25, x22] p20.2) fun p27 =>
  OX (extD p27.1 0) fun x28 =>
  OX (extD p27.1 1) fun x29 =>
  OX (binD .eql .num x21 x28) fun x30 =>
  WB x30
  (Post (.tup [x21, x29]) p27.2)
  (OX (bldV [.i .i64 0, .i .i64 0, .i .i64 0] [(0, 1, false, a2), (1, 1, false, x21), (2, 1, false, x28)]) fun x31 =>
  al [.i .i64 0, .i .i64 0, .i .i64 0] p27.2 fun x32 S33 =>
  OX (stD S33 3 true x32 (.agg x31)) fun S35 =>
  W cf (.loop [] c53_0) (mkf 81 [(4, x29), (10, .top), (11, .top), (14, x32), (15, (.i .i64 0)), (62, .top)]) S35 (Qblk 0 (QS cf c53_r0 (FinK [.t 10, .t 11] Post)))))
theorem e53 (cf : CallF) (a0 : D) (a1 : D) (a2 : D) (a3 : D) (a4 : D) (S : Store) (Post : D → Store → Prop) : wp cf c53 (frame0 d53 [a0, a1, a2, a3, a4]) S (FinK d53.res Post) = s53 cf a0 a1 a2 a3 a4 S Post := wpS_of (by kernel_rfl)
theorem i53 (a0 : D) (a1 : D) (a2 : D) (a3 : D) (a4 : D) (r : D) (ha : noRefL (stripL [a0, a1, a2, a3, a4]) = true) (hr : noRef r = true) (h : s53 (call dp) (strip a0) (strip a1) (strip a2) (strip a3) (strip a4) [] fun d _ => stripT d = r) : isoCall (call dp) 53 [a0, a1, a2, a3, a4] = some r := iso_s (f := d53) rfl ⟨rfl, by decide⟩ ha hr (by rw [← e53] at h; exact h)
theorem j53 (a0 : D) (a1 : D) (a2 : D) (a3 : D) (a4 : D) (Post : D → Prop) (ha : noRefL (stripL [a0, a1, a2, a3, a4]) = true) (hr : ∀ r, Post r → noRef r = true) (h : s53 (call dp) (strip a0) (strip a1) (strip a2) (strip a3) (strip a4) [] fun d _ => Post (stripT d)) : ∃ r, isoCall (call dp) 53 [a0, a1, a2, a3, a4] = some r ∧ Post r := iso_x (f := d53) rfl ⟨rfl, by decide⟩ ha hr (by rw [← e53] at h; exact h)
theorem f53 (a0 : D) (a1 : D) (a2 : D) (a3 : D) (a4 : D) (S : Store) (Post : D → Store → Prop) (h : s53 (call dp) a0 a1 a2 a3 a4 S Post) : ∃ r S', call dp 53 [a0, a1, a2, a3, a4] S = some (r, S') ∧ Post r S' := call_s (f := d53) rfl ⟨rfl, by decide⟩ (by rw [← e53] at h; exact h)

/-! lineage/lineageref11.constant -/
def s93_r0 (cf : CallF) (a0 : D) (a1 : D) (a2 : D) (a3 : D) (a8 : D) (a9 : D) (a13 : D) (S : Store) (Q : Ex → List D → Store → Prop) : Prop :=
  Q .ret (mkf 33 [(0, .top), (1, .top), (2, .top), (3, .top), (8, (.b true)), (9, .top), (13, .top)]) S
theorem e93_r0 (cf : CallF) (a0 : D) (a1 : D) (a2 : D) (a3 : D) (a8 : D) (a9 : D) (a13 : D) (S : Store) (Q : Ex → List D → Store → Prop) : wp cf c93_r0 (mkf 33 [(0, a0), (1, a1), (2, a2), (3, a3), (8, a8), (9, a9), (13, a13)]) S Q = s93_r0 cf a0 a1 a2 a3 a8 a9 a13 S Q := wpS_of (by kernel_rfl)
def s93_0 (cf : CallF) (a0 : D) (a1 : D) (a2 : D) (a3 : D) (a8 : D) (a9 : D) (a13 : D) (S : Store) (Q : Ex → List D → Store → Prop) : Prop :=
  OX (binD .shl .num (.i .i64 1) a1) fun x1 =>
  OX (binD .lss .num a9 x1) fun x2 =>
  WB x2
  (OX (binD .shl .num (.i .i64 1) a2) fun x3 =>
  OX (binD .rem .num a9 x3) fun x4 =>
  OX (binD .eql .num x4 a3) fun x5 =>
  OX (gsel x5 true (some a0)) fun x6 =>
  OX (gsel x5 true (some a9)) fun x7 =>
  OX (gsel x5 true (iaD 1 x6 x7)) fun x8 =>
  OX (gsel x5 true (ldD S 1 false x8)) fun x9 =>
  OX (gsel x5 true (some a0)) fun x10 =>
  OX (gsel x5 true (some a3)) fun x11 =>
  OX (gsel x5 true (iaD 1 x10 x11)) fun x12 =>
  OX (gsel x5 true (ldD S 1 false x12)) fun x13 =>
  OX (gsel x5 true (binD .neq .bool x9 x13)) fun x14 =>
  OX (pickD x5 x14 (.b false)) fun x15 =>
  WB x15
  (Q .ret (mkf 33 [(0, .top), (1, .top), (2, .top), (3, .top), (8, (.b false)), (9, .top), (13, .top)]) S)
  (OX (binD .add .num a9 (.i .i64 1)) fun x16 =>
  Q .normal (mkf 33 [(0, a0), (1, a1), (2, a2), (3, a3), (8, a8), (9, x16), (13, .top)]) S))
  (Q (.exit 0) (mkf 33 [(0, a0), (1, a1), (2, a2), (3, a3), (8, a8), (9, a9), (13, x2)]) S)
theorem e93_0 (cf : CallF) (a0 : D) (a1 : D) (a2 : D) (a3 : D) (a8 : D) (a9 : D) (a13 : D) (S : Store) (Q : Ex → List D → Store → Prop) : wp cf c93_0 (fkill (mkf 33 [(0, a0), (1, a1), (2, a2), (3, a3), (8, a8), (9, a9), (13, a13)]) []) S Q = s93_0 cf a0 a1 a2 a3 a8 a9 a13 S Q := wpS_of (by kernel_rfl)
def s93 (cf : CallF) (a0 : D) (a1 : D) (a2 : D) (a3 : D) (S : Store) (Post : D → Store → Prop) : Prop :=
  W cf (.loop [] c93_0) (mkf 33 [(0, a0), (1, a1), (2, a2), (3, a3), (8, .top), (9, (.i .i64 0)), (13, .top)]) S (Qblk 0 (QS cf c93_r0 (FinK [.t 8] Post)))
theorem e93 (cf : CallF) (a0 : D) (a1 : D) (a2 : D) (a3 : D) (S : Store) (Post : D → Store → Prop) : wp cf c93 (frame0 d93 [a0, a1, a2, a3]) S (FinK d93.res Post) = s93 cf a0 a1 a2 a3 S Post := wpS_of (by kernel_rfl)
theorem i93 (a0 : D) (a1 : D) (a2 : D) (a3 : D) (r : D) (ha : noRefL (stripL [a0, a1, a2, a3]) = true) (hr : noRef r = true) (h : s93 (call dp) (strip a0) (strip a1) (strip a2) (strip a3) [] fun d _ => stripT d = r) : isoCall (call dp) 93 [a0, a1, a2, a3] = some r := iso_s (f := d93) rfl ⟨rfl, by decide⟩ ha hr (by rw [← e93] at h; exact h)
theorem j93 (a0 : D) (a1 : D) (a2 : D) (a3 : D) (Post : D → Prop) (ha : noRefL (stripL [a0, a1, a2, a3]) = true) (hr : ∀ r, Post r → noRef r = true) (h : s93 (call dp) (strip a0) (strip a1) (strip a2) (strip a3) [] fun d _ => Post (stripT d)) : ∃ r, isoCall (call dp) 93 [a0, a1, a2, a3] = some r ∧ Post r := iso_x (f := d93) rfl ⟨rfl, by decide⟩ ha hr (by rw [← e93] at h; exact h)
theorem f93 (a0 : D) (a1 : D) (a2 : D) (a3 : D) (S : Store) (Post : D → Store → Prop) (h : s93 (call dp) a0 a1 a2 a3 S Post) : ∃ r S', call dp 93 [a0, a1, a2, a3] S = some (r, S') ∧ Post r S' := call_s (f := d93) rfl ⟨rfl, by decide⟩ (by rw [← e93] at h; exact h)

/-! lineage/lineageref11.Table -/
def s25_r0 (cf : CallF) (a1 : D) (a2 : D) (a3 : D) (a4 : D) (a11 : D) (S : Store) (Q : Ex → List D → Store → Prop) : Prop :=
  Q .ret (mkf 23 [(1, .top), (2, a3), (3, .top), (4, .top), (11, .top)]) S
theorem e25_r0 (cf : CallF) (a1 : D) (a2 : D) (a3 : D) (a4 : D) (a11 : D) (S : Store) (Q : Ex → List D → Store → Prop) : wp cf c25_r0 (mkf 23 [(1, a1), (2, a2), (3, a3), (4, a4), (11, a11)]) S Q = s25_r0 cf a1 a2 a3 a4 a11 S Q := wpS_of (by kernel_rfl)
def s25_0 (cf : CallF) (a1 : D) (a2 : D) (a3 : D) (a4 : D) (a11 : D) (S : Store) (Q : Ex → List D → Store → Prop) : Prop :=
  OX (faD 0 a1) fun x1 =>
  OX (ldD S 1 false x1) fun x2 =>
  OX (lenD false x2) fun x3 =>
  OX (binD .shl .num (.i .i64 1) x3) fun x4 =>
  OX (binD .lss .num a4 x4) fun x5 =>
  WB x5
  (OX (ldD S 3 true a1) fun x6 =>
  OX (faD 2 a1) fun x7 =>
  OX (ldD S 1 false x7) fun x8 =>
  OX (isoCall cf 58 [x6, x8, a4]) fun x9 =>
  OX (cellsV 1 false [x9]) fun x10 =>
  OX (appD 1 false a3 (.sl 1 false x10 .ro) S) fun p12 =>
  OX (binD .add .num a4 (.i .i64 1)) fun x13 =>
  Q .normal (mkf 23 [(1, a1), (2, a2), (3, p12.1), (4, x13), (11, .top)]) p12.2)
  (Q (.exit 0) (mkf 23 [(1, a1), (2, a2), (3, a3), (4, a4), (11, x5)]) S)
theorem e25_0 (cf : CallF) (a1 : D) (a2 : D) (a3 : D) (a4 : D) (a11 : D) (S : Store) (Q : Ex → List D → Store → Prop) : wp cf c25_0 (fkill (mkf 23 [(1, a1), (2, a2), (3, a3), (4, a4), (11, a11)]) []) S Q = s25_0 cf a1 a2 a3 a4 a11 S Q := wpS_of (by kernel_rfl)
def s25 (cf : CallF) (a0 : D) (S : Store) (Post : D → Store → Prop) : Prop :=
  bxx 3 true a0 S fun x14 S15 =>
  OX (cellsV 1 false []) fun x16 =>
  W cf (.loop [] c25_0) (mkf 23 [(1, x14), (2, .top), (3, (bslO 1 x16 S15).1), (4, (.i .i64 0)), (11, .top)]) (bslO 1 x16 S15).2 (Qblk 0 (QS cf c25_r0 (FinK [.t 2] Post)))
theorem e25 (cf : CallF) (a0 : D) (S : Store) (Post : D → Store → Prop) : wp cf c25 (frame0 d25 [a0]) S (FinK d25.res Post) = s25 cf a0 S Post := wpS_of (by kernel_rfl)
theorem i25 (a0 : D) (r : D) (ha : noRefL (stripL [a0]) = true) (hr : noRef r = true) (h : s25 (call dp) (strip a0) [] fun d _ => stripT d = r) : isoCall (call dp) 25 [a0] = some r := iso_s (f := d25) rfl ⟨rfl, by decide⟩ ha hr (by rw [← e25] at h; exact h)
theorem j25 (a0 : D) (Post : D → Prop) (ha : noRefL (stripL [a0]) = true) (hr : ∀ r, Post r → noRef r = true) (h : s25 (call dp) (strip a0) [] fun d _ => Post (stripT d)) : ∃ r, isoCall (call dp) 25 [a0] = some r ∧ Post r := iso_x (f := d25) rfl ⟨rfl, by decide⟩ ha hr (by rw [← e25] at h; exact h)
theorem f25 (a0 : D) (S : Store) (Post : D → Store → Prop) (h : s25 (call dp) a0 S Post) : ∃ r S', call dp 25 [a0] S = some (r, S') ∧ Post r S' := call_s (f := d25) rfl ⟨rfl, by decide⟩ (by rw [← e25] at h; exact h)

/-! lineage/lineageref11.value -/
def s58_r0 (cf : CallF) (a1 : D) (a2 : D) (a3 : D) (a6 : D) (a7 : D) (a9 : D) (a23 : D) (S : Store) (Q : Ex → List D → Store → Prop) : Prop :=
  OX (binD .eql .num a1 (.i .i64 1)) fun x1 =>
  Q .ret (mkf 28 [(1, .top), (2, .top), (3, .top), (6, x1), (7, a7), (9, .top), (23, a23)]) S
theorem e58_r0 (cf : CallF) (a1 : D) (a2 : D) (a3 : D) (a6 : D) (a7 : D) (a9 : D) (a23 : D) (S : Store) (Q : Ex → List D → Store → Prop) : wp cf c58_r0 (mkf 28 [(1, a1), (2, a2), (3, a3), (6, a6), (7, a7), (9, a9), (23, a23)]) S Q = s58_r0 cf a1 a2 a3 a6 a7 a9 a23 S Q := wpS_of (by kernel_rfl)
def s58_0 (cf : CallF) (a1 : D) (a2 : D) (a3 : D) (a6 : D) (a7 : D) (a9 : D) (a23 : D) (S : Store) (Q : Ex → List D → Store → Prop) : Prop :=
  OX (binD .geq .num a1 (.i .i64 2)) fun x2 =>
  WB x2
  (OX (faD 1 a3) fun x3 =>
  OX (ldD S 1 false x3) fun x4 =>
  OX (binD .sub .num a1 (.i .i64 2)) fun x5 =>
  OX (iaD 3 x4 x5) fun x6 =>
  OX (ldD S 3 true x6) fun x7 =>
  al [.i .i64 0, .i .i64 0, .i .i64 0] S fun x8 S9 =>
  OX (stD S9 3 true x8 x7) fun S11 =>
  OX (faD 1 x8) fun x12 =>
  OX (ldD S11 1 false x12) fun x13 =>
  OX (faD 0 x8) fun x14 =>
  OX (ldD S11 1 false x14) fun x15 =>
  OX (binD .shr .num a2 x15) fun x16 =>
  OX (binD .rem .num x16 (.i .i64 2)) fun x17 =>
  OX (binD .eql .num x17 (.i .i64 1)) fun x18 =>
  jn (fun (y20 : D) (y21 : D) (y22 : D) (y23 : D) (y24 : D) (y25 : D) (S26 : Store) =>
  Q .normal (mkf 28 [(1, y20), (2, y21), (3, y22), (6, y23), (7, y24), (9, .top), (23, y25)]) S26) fun k19 =>
  WB x18
  (OX (faD 2 x8) fun x27 =>
  OX (ldD S11 1 false x27) fun x28 =>
  k19 x28 a2 a3 a6 D.top D.top S11)
  (k19 x13 a2 a3 a6 x8 x18 S11))
  (Q (.exit 0) (mkf 28 [(1, a1), (2, a2), (3, a3), (6, a6), (7, .top), (9, x2), (23, .top)]) S)
theorem e58_0 (cf : CallF) (a1 : D) (a2 : D) (a3 : D) (a6 : D) (a7 : D) (a9 : D) (a23 : D) (S : Store) (Q : Ex → List D → Store → Prop) : wp cf c58_0 (fkill (mkf 28 [(1, a1), (2, a2), (3, a3), (6, a6), (7, a7), (9, a9), (23, a23)]) [7, 23]) S Q = s58_0 cf a1 a2 a3 a6 a7 a9 a23 S Q := wpS_of (by kernel_rfl)
def s58 (cf : CallF) (a0 : D) (a1 : D) (a2 : D) (S : Store) (Post : D → Store → Prop) : Prop :=
  bxx 3 true a0 S fun x29 S30 =>
  W cf (.loop [7, 23] c58_0) (mkf 28 [(1, a1), (2, a2), (3, x29), (6, .top), (7, .top), (9, .top), (23, .top)]) S30 (Qblk 0 (QS cf c58_r0 (FinK [.t 6] Post)))
theorem e58 (cf : CallF) (a0 : D) (a1 : D) (a2 : D) (S : Store) (Post : D → Store → Prop) : wp cf c58 (frame0 d58 [a0, a1, a2]) S (FinK d58.res Post) = s58 cf a0 a1 a2 S Post := wpS_of (by kernel_rfl)
theorem i58 (a0 : D) (a1 : D) (a2 : D) (r : D) (ha : noRefL (stripL [a0, a1, a2]) = true) (hr : noRef r = true) (h : s58 (call dp) (strip a0) (strip a1) (strip a2) [] fun d _ => stripT d = r) : isoCall (call dp) 58 [a0, a1, a2] = some r := iso_s (f := d58) rfl ⟨rfl, by decide⟩ ha hr (by rw [← e58] at h; exact h)
theorem j58 (a0 : D) (a1 : D) (a2 : D) (Post : D → Prop) (ha : noRefL (stripL [a0, a1, a2]) = true) (hr : ∀ r, Post r → noRef r = true) (h : s58 (call dp) (strip a0) (strip a1) (strip a2) [] fun d _ => Post (stripT d)) : ∃ r, isoCall (call dp) 58 [a0, a1, a2] = some r ∧ Post r := iso_x (f := d58) rfl ⟨rfl, by decide⟩ ha hr (by rw [← e58] at h; exact h)
theorem f58 (a0 : D) (a1 : D) (a2 : D) (S : Store) (Post : D → Store → Prop) (h : s58 (call dp) a0 a1 a2 S Post) : ∃ r S', call dp 58 [a0, a1, a2] S = some (r, S') ∧ Post r S' := call_s (f := d58) rfl ⟨rfl, by decide⟩ (by rw [← e58] at h; exact h)

/-! lineage/lineageref11.Not -/
def s26_r0 (cf : CallF) (a0 : D) (a2 : D) (a3 : D) (a4 : D) (a9 : D) (S : Store) (Q : Ex → List D → Store → Prop) : Prop :=
  Q .ret (mkf 21 [(0, .top), (2, a3), (3, .top), (4, .top), (9, .top)]) S
theorem e26_r0 (cf : CallF) (a0 : D) (a2 : D) (a3 : D) (a4 : D) (a9 : D) (S : Store) (Q : Ex → List D → Store → Prop) : wp cf c26_r0 (mkf 21 [(0, a0), (2, a2), (3, a3), (4, a4), (9, a9)]) S Q = s26_r0 cf a0 a2 a3 a4 a9 S Q := wpS_of (by kernel_rfl)
def s26_0 (cf : CallF) (a0 : D) (a2 : D) (a3 : D) (a4 : D) (a9 : D) (S : Store) (Q : Ex → List D → Store → Prop) : Prop :=
  OX (lenD false a0) fun x1 =>
  OX (binD .lss .num a4 x1) fun x2 =>
  WB x2
  (OX (iaD 1 a0 a4) fun x3 =>
  OX (ldD S 1 false x3) fun x4 =>
  OX (unD .not x4) fun x5 =>
  OX (cellsV 1 false [x5]) fun x6 =>
  OX (appD 1 false a3 (.sl 1 false x6 .ro) S) fun p8 =>
  OX (binD .add .num a4 (.i .i64 1)) fun x9 =>
  Q .normal (mkf 21 [(0, a0), (2, a2), (3, p8.1), (4, x9), (9, .top)]) p8.2)
  (Q (.exit 0) (mkf 21 [(0, a0), (2, a2), (3, a3), (4, a4), (9, x2)]) S)
theorem e26_0 (cf : CallF) (a0 : D) (a2 : D) (a3 : D) (a4 : D) (a9 : D) (S : Store) (Q : Ex → List D → Store → Prop) : wp cf c26_0 (fkill (mkf 21 [(0, a0), (2, a2), (3, a3), (4, a4), (9, a9)]) []) S Q = s26_0 cf a0 a2 a3 a4 a9 S Q := wpS_of (by kernel_rfl)
def s26 (cf : CallF) (a0 : D) (S : Store) (Post : D → Store → Prop) : Prop :=
  OX (cellsV 1 false []) fun x10 =>
  W cf (.loop [] c26_0) (mkf 21 [(0, a0), (2, .top), (3, (bslO 1 x10 S).1), (4, (.i .i64 0)), (9, .top)]) (bslO 1 x10 S).2 (Qblk 0 (QS cf c26_r0 (FinK [.t 2] Post)))
theorem e26 (cf : CallF) (a0 : D) (S : Store) (Post : D → Store → Prop) : wp cf c26 (frame0 d26 [a0]) S (FinK d26.res Post) = s26 cf a0 S Post := wpS_of (by kernel_rfl)
theorem i26 (a0 : D) (r : D) (ha : noRefL (stripL [a0]) = true) (hr : noRef r = true) (h : s26 (call dp) (strip a0) [] fun d _ => stripT d = r) : isoCall (call dp) 26 [a0] = some r := iso_s (f := d26) rfl ⟨rfl, by decide⟩ ha hr (by rw [← e26] at h; exact h)
theorem j26 (a0 : D) (Post : D → Prop) (ha : noRefL (stripL [a0]) = true) (hr : ∀ r, Post r → noRef r = true) (h : s26 (call dp) (strip a0) [] fun d _ => Post (stripT d)) : ∃ r, isoCall (call dp) 26 [a0] = some r ∧ Post r := iso_x (f := d26) rfl ⟨rfl, by decide⟩ ha hr (by rw [← e26] at h; exact h)
theorem f26 (a0 : D) (S : Store) (Post : D → Store → Prop) (h : s26 (call dp) a0 S Post) : ∃ r S', call dp 26 [a0] S = some (r, S') ∧ Post r S' := call_s (f := d26) rfl ⟨rfl, by decide⟩ (by rw [← e26] at h; exact h)

/-! lineage/lineageref11.And -/
def s28_r0 (cf : CallF) (a0 : D) (a1 : D) (a4 : D) (a5 : D) (a6 : D) (a11 : D) (S : Store) (Q : Ex → List D → Store → Prop) : Prop :=
  Q .ret (mkf 28 [(0, .top), (1, .top), (4, a5), (5, .top), (6, .top), (11, .top)]) S
theorem e28_r0 (cf : CallF) (a0 : D) (a1 : D) (a4 : D) (a5 : D) (a6 : D) (a11 : D) (S : Store) (Q : Ex → List D → Store → Prop) : wp cf c28_r0 (mkf 28 [(0, a0), (1, a1), (4, a4), (5, a5), (6, a6), (11, a11)]) S Q = s28_r0 cf a0 a1 a4 a5 a6 a11 S Q := wpS_of (by kernel_rfl)
def s28_0 (cf : CallF) (a0 : D) (a1 : D) (a4 : D) (a5 : D) (a6 : D) (a11 : D) (S : Store) (Q : Ex → List D → Store → Prop) : Prop :=
  OX (lenD false a0) fun x1 =>
  OX (binD .lss .num a6 x1) fun x2 =>
  WB x2
  (OX (iaD 1 a0 a6) fun x3 =>
  OX (ldD S 1 false x3) fun x4 =>
  OX (gsel x4 true (some a1)) fun x5 =>
  OX (gsel x4 true (some a6)) fun x6 =>
  OX (gsel x4 true (iaD 1 x5 x6)) fun x7 =>
  OX (gsel x4 true (ldD S 1 false x7)) fun x8 =>
  OX (pickD x4 x8 (.b false)) fun x9 =>
  OX (cellsV 1 false [x9]) fun x10 =>
  OX (appD 1 false a5 (.sl 1 false x10 .ro) S) fun p12 =>
  OX (binD .add .num a6 (.i .i64 1)) fun x13 =>
  Q .normal (mkf 28 [(0, a0), (1, a1), (4, a4), (5, p12.1), (6, x13), (11, .top)]) p12.2)
  (Q (.exit 0) (mkf 28 [(0, a0), (1, a1), (4, a4), (5, a5), (6, a6), (11, x2)]) S)
theorem e28_0 (cf : CallF) (a0 : D) (a1 : D) (a4 : D) (a5 : D) (a6 : D) (a11 : D) (S : Store) (Q : Ex → List D → Store → Prop) : wp cf c28_0 (fkill (mkf 28 [(0, a0), (1, a1), (4, a4), (5, a5), (6, a6), (11, a11)]) []) S Q = s28_0 cf a0 a1 a4 a5 a6 a11 S Q := wpS_of (by kernel_rfl)
def s28 (cf : CallF) (a0 : D) (a1 : D) (S : Store) (Post : D → Store → Prop) : Prop :=
  OX (cellsV 1 false []) fun x14 =>
  W cf (.loop [] c28_0) (mkf 28 [(0, a0), (1, a1), (4, .top), (5, (bslO 1 x14 S).1), (6, (.i .i64 0)), (11, .top)]) (bslO 1 x14 S).2 (Qblk 0 (QS cf c28_r0 (FinK [.t 4] Post)))
theorem e28 (cf : CallF) (a0 : D) (a1 : D) (S : Store) (Post : D → Store → Prop) : wp cf c28 (frame0 d28 [a0, a1]) S (FinK d28.res Post) = s28 cf a0 a1 S Post := wpS_of (by kernel_rfl)
theorem i28 (a0 : D) (a1 : D) (r : D) (ha : noRefL (stripL [a0, a1]) = true) (hr : noRef r = true) (h : s28 (call dp) (strip a0) (strip a1) [] fun d _ => stripT d = r) : isoCall (call dp) 28 [a0, a1] = some r := iso_s (f := d28) rfl ⟨rfl, by decide⟩ ha hr (by rw [← e28] at h; exact h)
theorem j28 (a0 : D) (a1 : D) (Post : D → Prop) (ha : noRefL (stripL [a0, a1]) = true) (hr : ∀ r, Post r → noRef r = true) (h : s28 (call dp) (strip a0) (strip a1) [] fun d _ => Post (stripT d)) : ∃ r, isoCall (call dp) 28 [a0, a1] = some r ∧ Post r := iso_x (f := d28) rfl ⟨rfl, by decide⟩ ha hr (by rw [← e28] at h; exact h)
theorem f28 (a0 : D) (a1 : D) (S : Store) (Post : D → Store → Prop) (h : s28 (call dp) a0 a1 S Post) : ∃ r S', call dp 28 [a0, a1] S = some (r, S') ∧ Post r S' := call_s (f := d28) rfl ⟨rfl, by decide⟩ (by rw [← e28] at h; exact h)

/-! lineage/lineageref11.Or -/
def s29_r0 (cf : CallF) (a0 : D) (a1 : D) (a4 : D) (a5 : D) (a6 : D) (a11 : D) (S : Store) (Q : Ex → List D → Store → Prop) : Prop :=
  Q .ret (mkf 28 [(0, .top), (1, .top), (4, a5), (5, .top), (6, .top), (11, .top)]) S
theorem e29_r0 (cf : CallF) (a0 : D) (a1 : D) (a4 : D) (a5 : D) (a6 : D) (a11 : D) (S : Store) (Q : Ex → List D → Store → Prop) : wp cf c29_r0 (mkf 28 [(0, a0), (1, a1), (4, a4), (5, a5), (6, a6), (11, a11)]) S Q = s29_r0 cf a0 a1 a4 a5 a6 a11 S Q := wpS_of (by kernel_rfl)
def s29_0 (cf : CallF) (a0 : D) (a1 : D) (a4 : D) (a5 : D) (a6 : D) (a11 : D) (S : Store) (Q : Ex → List D → Store → Prop) : Prop :=
  OX (lenD false a0) fun x1 =>
  OX (binD .lss .num a6 x1) fun x2 =>
  WB x2
  (OX (iaD 1 a0 a6) fun x3 =>
  OX (ldD S 1 false x3) fun x4 =>
  OX (gsel x4 false (some a1)) fun x5 =>
  OX (gsel x4 false (some a6)) fun x6 =>
  OX (gsel x4 false (iaD 1 x5 x6)) fun x7 =>
  OX (gsel x4 false (ldD S 1 false x7)) fun x8 =>
  OX (pickD x4 (.b true) x8) fun x9 =>
  OX (cellsV 1 false [x9]) fun x10 =>
  OX (appD 1 false a5 (.sl 1 false x10 .ro) S) fun p12 =>
  OX (binD .add .num a6 (.i .i64 1)) fun x13 =>
  Q .normal (mkf 28 [(0, a0), (1, a1), (4, a4), (5, p12.1), (6, x13), (11, .top)]) p12.2)
  (Q (.exit 0) (mkf 28 [(0, a0), (1, a1), (4, a4), (5, a5), (6, a6), (11, x2)]) S)
theorem e29_0 (cf : CallF) (a0 : D) (a1 : D) (a4 : D) (a5 : D) (a6 : D) (a11 : D) (S : Store) (Q : Ex → List D → Store → Prop) : wp cf c29_0 (fkill (mkf 28 [(0, a0), (1, a1), (4, a4), (5, a5), (6, a6), (11, a11)]) []) S Q = s29_0 cf a0 a1 a4 a5 a6 a11 S Q := wpS_of (by kernel_rfl)
def s29 (cf : CallF) (a0 : D) (a1 : D) (S : Store) (Post : D → Store → Prop) : Prop :=
  OX (cellsV 1 false []) fun x14 =>
  W cf (.loop [] c29_0) (mkf 28 [(0, a0), (1, a1), (4, .top), (5, (bslO 1 x14 S).1), (6, (.i .i64 0)), (11, .top)]) (bslO 1 x14 S).2 (Qblk 0 (QS cf c29_r0 (FinK [.t 4] Post)))
theorem e29 (cf : CallF) (a0 : D) (a1 : D) (S : Store) (Post : D → Store → Prop) : wp cf c29 (frame0 d29 [a0, a1]) S (FinK d29.res Post) = s29 cf a0 a1 S Post := wpS_of (by kernel_rfl)
theorem i29 (a0 : D) (a1 : D) (r : D) (ha : noRefL (stripL [a0, a1]) = true) (hr : noRef r = true) (h : s29 (call dp) (strip a0) (strip a1) [] fun d _ => stripT d = r) : isoCall (call dp) 29 [a0, a1] = some r := iso_s (f := d29) rfl ⟨rfl, by decide⟩ ha hr (by rw [← e29] at h; exact h)
theorem j29 (a0 : D) (a1 : D) (Post : D → Prop) (ha : noRefL (stripL [a0, a1]) = true) (hr : ∀ r, Post r → noRef r = true) (h : s29 (call dp) (strip a0) (strip a1) [] fun d _ => Post (stripT d)) : ∃ r, isoCall (call dp) 29 [a0, a1] = some r ∧ Post r := iso_x (f := d29) rfl ⟨rfl, by decide⟩ ha hr (by rw [← e29] at h; exact h)
theorem f29 (a0 : D) (a1 : D) (S : Store) (Post : D → Store → Prop) (h : s29 (call dp) a0 a1 S Post) : ∃ r S', call dp 29 [a0, a1] S = some (r, S') ∧ Post r S' := call_s (f := d29) rfl ⟨rfl, by decide⟩ (by rw [← e29] at h; exact h)

/-! lineage/lineageref11.Constant -/
def s19_r0 (cf : CallF) (a0 : D) (a1 : D) (a4 : D) (a5 : D) (a6 : D) (a11 : D) (S : Store) (Q : Ex → List D → Store → Prop) : Prop :=
  Q .ret (mkf 19 [(0, .top), (1, .top), (4, a5), (5, .top), (6, .top), (11, .top)]) S
theorem e19_r0 (cf : CallF) (a0 : D) (a1 : D) (a4 : D) (a5 : D) (a6 : D) (a11 : D) (S : Store) (Q : Ex → List D → Store → Prop) : wp cf c19_r0 (mkf 19 [(0, a0), (1, a1), (4, a4), (5, a5), (6, a6), (11, a11)]) S Q = s19_r0 cf a0 a1 a4 a5 a6 a11 S Q := wpS_of (by kernel_rfl)
def s19_0 (cf : CallF) (a0 : D) (a1 : D) (a4 : D) (a5 : D) (a6 : D) (a11 : D) (S : Store) (Q : Ex → List D → Store → Prop) : Prop :=
  OX (binD .shl .num (.i .i64 1) a0) fun x1 =>
  OX (binD .lss .num a6 x1) fun x2 =>
  WB x2
  (OX (cellsV 1 false [a1]) fun x3 =>
  OX (appD 1 false a5 (.sl 1 false x3 .ro) S) fun p5 =>
  OX (binD .add .num a6 (.i .i64 1)) fun x6 =>
  Q .normal (mkf 19 [(0, a0), (1, a1), (4, a4), (5, p5.1), (6, x6), (11, .top)]) p5.2)
  (Q (.exit 0) (mkf 19 [(0, a0), (1, a1), (4, a4), (5, a5), (6, a6), (11, x2)]) S)
theorem e19_0 (cf : CallF) (a0 : D) (a1 : D) (a4 : D) (a5 : D) (a6 : D) (a11 : D) (S : Store) (Q : Ex → List D → Store → Prop) : wp cf c19_0 (fkill (mkf 19 [(0, a0), (1, a1), (4, a4), (5, a5), (6, a6), (11, a11)]) []) S Q = s19_0 cf a0 a1 a4 a5 a6 a11 S Q := wpS_of (by kernel_rfl)
def s19 (cf : CallF) (a0 : D) (a1 : D) (S : Store) (Post : D → Store → Prop) : Prop :=
  OX (cellsV 1 false []) fun x7 =>
  W cf (.loop [] c19_0) (mkf 19 [(0, a0), (1, a1), (4, .top), (5, (bslO 1 x7 S).1), (6, (.i .i64 0)), (11, .top)]) (bslO 1 x7 S).2 (Qblk 0 (QS cf c19_r0 (FinK [.t 4] Post)))
theorem e19 (cf : CallF) (a0 : D) (a1 : D) (S : Store) (Post : D → Store → Prop) : wp cf c19 (frame0 d19 [a0, a1]) S (FinK d19.res Post) = s19 cf a0 a1 S Post := wpS_of (by kernel_rfl)
theorem i19 (a0 : D) (a1 : D) (r : D) (ha : noRefL (stripL [a0, a1]) = true) (hr : noRef r = true) (h : s19 (call dp) (strip a0) (strip a1) [] fun d _ => stripT d = r) : isoCall (call dp) 19 [a0, a1] = some r := iso_s (f := d19) rfl ⟨rfl, by decide⟩ ha hr (by rw [← e19] at h; exact h)
theorem j19 (a0 : D) (a1 : D) (Post : D → Prop) (ha : noRefL (stripL [a0, a1]) = true) (hr : ∀ r, Post r → noRef r = true) (h : s19 (call dp) (strip a0) (strip a1) [] fun d _ => Post (stripT d)) : ∃ r, isoCall (call dp) 19 [a0, a1] = some r ∧ Post r := iso_x (f := d19) rfl ⟨rfl, by decide⟩ ha hr (by rw [← e19] at h; exact h)
theorem f19 (a0 : D) (a1 : D) (S : Store) (Post : D → Store → Prop) (h : s19 (call dp) a0 a1 S Post) : ∃ r S', call dp 19 [a0, a1] S = some (r, S') ∧ Post r S' := call_s (f := d19) rfl ⟨rfl, by decide⟩ (by rw [← e19] at h; exact h)

/-! lineage/lineageref11.Single -/
def s20_r0 (cf : CallF) (a0 : D) (a1 : D) (a4 : D) (a5 : D) (a6 : D) (a11 : D) (S : Store) (Q : Ex → List D → Store → Prop) : Prop :=
  Q .ret (mkf 23 [(0, .top), (1, .top), (4, a5), (5, .top), (6, .top), (11, .top)]) S
theorem e20_r0 (cf : CallF) (a0 : D) (a1 : D) (a4 : D) (a5 : D) (a6 : D) (a11 : D) (S : Store) (Q : Ex → List D → Store → Prop) : wp cf c20_r0 (mkf 23 [(0, a0), (1, a1), (4, a4), (5, a5), (6, a6), (11, a11)]) S Q = s20_r0 cf a0 a1 a4 a5 a6 a11 S Q := wpS_of (by kernel_rfl)
def s20_0 (cf : CallF) (a0 : D) (a1 : D) (a4 : D) (a5 : D) (a6 : D) (a11 : D) (S : Store) (Q : Ex → List D → Store → Prop) : Prop :=
  OX (binD .shl .num (.i .i64 1) a0) fun x1 =>
  OX (binD .lss .num a6 x1) fun x2 =>
  WB x2
  (OX (binD .shr .num a6 a1) fun x3 =>
  OX (binD .rem .num x3 (.i .i64 2)) fun x4 =>
  OX (binD .eql .num x4 (.i .i64 1)) fun x5 =>
  OX (cellsV 1 false [x5]) fun x6 =>
  OX (appD 1 false a5 (.sl 1 false x6 .ro) S) fun p8 =>
  OX (binD .add .num a6 (.i .i64 1)) fun x9 =>
  Q .normal (mkf 23 [(0, a0), (1, a1), (4, a4), (5, p8.1), (6, x9), (11, .top)]) p8.2)
  (Q (.exit 0) (mkf 23 [(0, a0), (1, a1), (4, a4), (5, a5), (6, a6), (11, x2)]) S)
theorem e20_0 (cf : CallF) (a0 : D) (a1 : D) (a4 : D) (a5 : D) (a6 : D) (a11 : D) (S : Store) (Q : Ex → List D → Store → Prop) : wp cf c20_0 (fkill (mkf 23 [(0, a0), (1, a1), (4, a4), (5, a5), (6, a6), (11, a11)]) []) S Q = s20_0 cf a0 a1 a4 a5 a6 a11 S Q := wpS_of (by kernel_rfl)
def s20 (cf : CallF) (a0 : D) (a1 : D) (S : Store) (Post : D → Store → Prop) : Prop :=
  OX (cellsV 1 false []) fun x10 =>
  W cf (.loop [] c20_0) (mkf 23 [(0, a0), (1, a1), (4, .top), (5, (bslO 1 x10 S).1), (6, (.i .i64 0)), (11, .top)]) (bslO 1 x10 S).2 (Qblk 0 (QS cf c20_r0 (FinK [.t 4] Post)))
theorem e20 (cf : CallF) (a0 : D) (a1 : D) (S : Store) (Post : D → Store → Prop) : wp cf c20 (frame0 d20 [a0, a1]) S (FinK d20.res Post) = s20 cf a0 a1 S Post := wpS_of (by kernel_rfl)
theorem i20 (a0 : D) (a1 : D) (r : D) (ha : noRefL (stripL [a0, a1]) = true) (hr : noRef r = true) (h : s20 (call dp) (strip a0) (strip a1) [] fun d _ => stripT d = r) : isoCall (call dp) 20 [a0, a1] = some r := iso_s (f := d20) rfl ⟨rfl, by decide⟩ ha hr (by rw [← e20] at h; exact h)
theorem j20 (a0 : D) (a1 : D) (Post : D → Prop) (ha : noRefL (stripL [a0, a1]) = true) (hr : ∀ r, Post r → noRef r = true) (h : s20 (call dp) (strip a0) (strip a1) [] fun d _ => Post (stripT d)) : ∃ r, isoCall (call dp) 20 [a0, a1] = some r ∧ Post r := iso_x (f := d20) rfl ⟨rfl, by decide⟩ ha hr (by rw [← e20] at h; exact h)
theorem f20 (a0 : D) (a1 : D) (S : Store) (Post : D → Store → Prop) (h : s20 (call dp) a0 a1 S Post) : ∃ r S', call dp 20 [a0, a1] S = some (r, S') ∧ Post r S' := call_s (f := d20) rfl ⟨rfl, by decide⟩ (by rw [← e20] at h; exact h)

/-! lineage/lineagelaw11.BddOperations -/
def s3 (cf : CallF) (a0 : D) (a1 : D) (a2 : D) (a3 : D) (a4 : D) (S : Store) (Post : D → Store → Prop) : Prop :=
  bxx 3 true a0 S fun x1 S2 =>
  bxx 3 true a1 S2 fun x3 S4 =>
  bxx 2 true a3 S4 fun x5 S6 =>
  OX (isoCall cf 10 []) fun x7 =>
  OX (unD .not x7) fun x8 =>
  OX (gsel x8 false (ldD S6 3 true x1)) fun x9 =>
  OX (gsel x8 false (isoCall cf 11 [x9])) fun x10 =>
  OX (gsel x8 false (unD .not x10)) fun x11 =>
  OX (pickD x8 (.b true) x11) fun x12 =>
  OX (gsel x12 false (ldD S6 3 true x3)) fun x13 =>
  OX (gsel x12 false (isoCall cf 11 [x13])) fun x14 =>
  OX (gsel x12 false (unD .not x14)) fun x15 =>
  OX (pickD x12 (.b true) x15) fun x16 =>
  OX (gsel x16 false (some a2)) fun x17 =>
  OX (gsel x16 false (isoCall cf 12 [x17])) fun x18 =>
  OX (gsel x16 false (unD .not x18)) fun x19 =>
  OX (pickD x16 (.b true) x19) fun x20 =>
  WB x20
  (OX (isoCall cf 10 []) fun x21 =>
  Post x21 S6)
  (OX (isoCall cf 13 [a2, a4]) fun x22 =>
  al [.sl 2 true [] .ro, .sl 3 true [] .ro, .i .i64 0] S6 fun x23 S24 =>
  OX (stD S24 3 true x23 x22) fun S26 =>
  OX (ldD S26 2 true x5) fun x27 =>
  OX (isoCall cf 14 [a2, x27]) fun x28 =>
  OX (extD x28 0) fun x29 =>
  OX (extD x28 1) fun x30 =>
  al [.sl 2 true [] .ro, .sl 3 true [] .ro, .i .i64 0] S26 fun x31 S32 =>
  OX (stD S32 3 true x31 x29) fun S34 =>
  OX (ldD S34 2 true x5) fun x35 =>
  OX (isoCall cf 15 [a2, x35]) fun x36 =>
  OX (isoCall cf 16 [a2]) fun x37 =>
  OX (unD .not x37) fun x38 =>
  jn (fun (y40 : D) (y41 : D) (y42 : D) (y43 : D) (y44 : D) (S45 : Store) =>
  OX (ldD S45 3 true y40) fun x46 =>
  OX (ldD S45 3 true y41) fun x47 =>
  OX (isoCall cf 21 [x46, x47]) fun x48 =>
  OX (extD x48 0) fun x49 =>
  OX (extD x48 1) fun x50 =>
  al [.sl 2 true [] .ro, .sl 3 true [] .ro, .i .i64 0] S45 fun x51 S52 =>
  OX (stD S52 3 true x51 x49) fun S54 =>
  OX (ldD S54 3 true y40) fun x55 =>
  OX (ldD S54 3 true y41) fun x56 =>
  OX (isoCall cf 22 [x55, x56]) fun x57 =>
  OX (extD x57 0) fun x58 =>
  OX (extD x57 1) fun x59 =>
  al [.sl 2 true [] .ro, .sl 3 true [] .ro, .i .i64 0] S54 fun x60 S61 =>
  OX (stD S61 3 true x60 x58) fun S63 =>
  OX (ldD S63 3 true y40) fun x64 =>
  OX (isoCall cf 23 [x64]) fun x65 =>
  al [.sl 2 true [] .ro, .sl 3 true [] .ro, .i .i64 0] S63 fun x66 S67 =>
  OX (stD S67 3 true x66 x65) fun S69 =>
  OX (ldD S69 3 true y40) fun x70 =>
  OX (isoCall cf 24 [x70]) fun x71 =>
  OX (unD .not x71) fun x72 =>
  WB x72
  (OX (binD .eql .num x50 (.i .i64 1)) fun x73 =>
  OX (gsel x73 true (some x59)) fun x74 =>
  OX (gsel x73 true (binD .eql .num x74 (.i .i64 1))) fun x75 =>
  OX (pickD x73 x75 (.b false)) fun x76 =>
  OX (gsel x76 true (ldD S69 3 true x51)) fun x77 =>
  OX (gsel x76 true ((bldV [.sl 2 true [] .ro, .sl 3 true [] .ro, .i .i64 0] []).map .agg)) fun x78 =>
  OX (gsel x76 true (isoCall cf 17 [x77, x78])) fun x79 =>
  OX (pickD x76 x79 (.b false)) fun x80 =>
  OX (gsel x80 true (ldD S69 3 true x60)) fun x81 =>
  OX (gsel x80 true ((bldV [.sl 2 true [] .ro, .sl 3 true [] .ro, .i .i64 0] []).map .agg)) fun x82 =>
  OX (gsel x80 true (isoCall cf 17 [x81, x82])) fun x83 =>
  OX (pickD x80 x83 (.b false)) fun x84 =>
  OX (gsel x84 true (ldD S69 3 true x66)) fun x85 =>
  OX (gsel x84 true ((bldV [.sl 2 true [] .ro, .sl 3 true [] .ro, .i .i64 0] []).map .agg)) fun x86 =>
  OX (gsel x84 true (isoCall cf 17 [x85, x86])) fun x87 =>
  OX (pickD x84 x87 (.b false)) fun x88 =>
  Post x88 S69)
  (OX (ldD S69 3 true y40) fun x89 =>
  OX (isoCall cf 25 [x89]) fun x90 =>
  OX (ldD S69 3 true x66) fun x91 =>
  OX (faD 0 y40) fun x92 =>
  OX (ldD S69 1 false x92) fun x93 =>
  OX (isoCall cf 26 [x90]) fun x94 =>
  OX (isoCall cf 18 [x93, x94]) fun x95 =>
  OX (isoCall cf 17 [x91, x95]) fun x96 =>
  OX (unD .not x96) fun x97 =>
  WB x97
  (Post (.b false) S69)
  (OX (ldD S69 3 true y41) fun x98 =>
  OX (isoCall cf 24 [x98]) fun x99 =>
  OX (unD .not x99) fun x100 =>
  OX (gsel x100 false (faD 0 y40)) fun x101 =>
  OX (gsel x100 false (ldD S69 1 false x101)) fun x102 =>
  OX (gsel x100 false (faD 0 y41)) fun x103 =>
  OX (gsel x100 false (ldD S69 1 false x103)) fun x104 =>
  OX (gsel x100 false (isoCall cf 27 [x102, x104])) fun x105 =>
  OX (gsel x100 false (unD .not x105)) fun x106 =>
  OX (pickD x100 (.b true) x106) fun x107 =>
  WB x107
  (OX (binD .eql .num x50 (.i .i64 1)) fun x108 =>
  OX (gsel x108 true (some x59)) fun x109 =>
  OX (gsel x108 true (binD .eql .num x109 (.i .i64 1))) fun x110 =>
  OX (pickD x108 x110 (.b false)) fun x111 =>
  OX (gsel x111 true (ldD S69 3 true x51)) fun x112 =>
  OX (gsel x111 true ((bldV [.sl 2 true [] .ro, .sl 3 true [] .ro, .i .i64 0] []).map .agg)) fun x113 =>
  OX (gsel x111 true (isoCall cf 17 [x112, x113])) fun x114 =>
  OX (pickD x111 x114 (.b false)) fun x115 =>
  OX (gsel x115 true (ldD S69 3 true x60)) fun x116 =>
  OX (gsel x115 true ((bldV [.sl 2 true [] .ro, .sl 3 true [] .ro, .i .i64 0] []).map .agg)) fun x117 =>
  OX (gsel x115 true (isoCall cf 17 [x116, x117])) fun x118 =>
  OX (pickD x115 x118 (.b false)) fun x119 =>
  Post x119 S69)
  (OX (ldD S69 3 true y41) fun x120 =>
  OX (isoCall cf 25 [x120]) fun x121 =>
  OX (binD .eql .num x50 (.i .i64 0)) fun x122 =>
  OX (gsel x122 true (some x59)) fun x123 =>
  OX (gsel x122 true (binD .eql .num x123 (.i .i64 0))) fun x124 =>
  OX (pickD x122 x124 (.b false)) fun x125 =>
  OX (gsel x125 true (ldD S69 3 true x51)) fun x126 =>
  OX (gsel x125 true (faD 0 y40)) fun x127 =>
  OX (gsel x125 true (ldD S69 1 false x127)) fun x128 =>
  OX (gsel x125 true (some x90)) fun x129 =>
  OX (gsel x125 true (some x121)) fun x130 =>
  OX (gsel x125 true (isoCall cf 28 [x129, x130])) fun x131 =>
  OX (gsel x125 true (isoCall cf 18 [x128, x131])) fun x132 =>
  OX (gsel x125 true (isoCall cf 17 [x126, x132])) fun x133 =>
  OX (pickD x125 x133 (.b false)) fun x134 =>
  OX (gsel x134 true (ldD S69 3 true x60)) fun x135 =>
  OX (gsel x134 true (faD 0 y40)) fun x136 =>
  OX (gsel x134 true (ldD S69 1 false x136)) fun x137 =>
  OX (gsel x134 true (some x90)) fun x138 =>
  OX (gsel x134 true (some x121)) fun x139 =>
  OX (gsel x134 true (isoCall cf 29 [x138, x139])) fun x140 =>
  OX (gsel x134 true (isoCall cf 18 [x137, x140])) fun x141 =>
  OX (gsel x134 true (isoCall cf 17 [x135, x141])) fun x142 =>
  OX (pickD x134 x142 (.b false)) fun x143 =>
  Post x143 S69)))) fun k39 =>
  WB x38
  (OX (ldD S34 3 true x23) fun x144 =>
  OX (bldV [.sl 2 true [] .ro, .sl 3 true [] .ro, .i .i64 0] []) fun x145 =>
  OX (isoCall cf 17 [x144, (.agg x145)]) fun x146 =>
  OX (unD .not x146) fun x147 =>
  OX (gsel x147 false (some x30)) fun x148 =>
  OX (gsel x147 false (binD .neq .num x148 (.i .i64 1))) fun x149 =>
  OX (pickD x147 (.b true) x149) fun x150 =>
  OX (gsel x150 false (ldD S34 3 true x31)) fun x151 =>
  OX (gsel x150 false ((bldV [.sl 2 true [] .ro, .sl 3 true [] .ro, .i .i64 0] []).map .agg)) fun x152 =>
  OX (gsel x150 false (isoCall cf 17 [x151, x152])) fun x153 =>
  OX (gsel x150 false (unD .not x153)) fun x154 =>
  OX (pickD x150 (.b true) x154) fun x155 =>
  WB x155
  (Post (.b false) S34)
  (k39 x1 x3 D.top x155 D.top S34))
  (OX (ldD S34 3 true x23) fun x156 =>
  OX (lenD false a2) fun x157 =>
  OX (isoCall cf 19 [x157, a4]) fun x158 =>
  OX (isoCall cf 18 [a2, x158]) fun x159 =>
  OX (isoCall cf 17 [x156, x159]) fun x160 =>
  OX (unD .not x160) fun x161 =>
  WB x161
  (Post (.b false) S34)
  (OX (binD .lss .num x36 (.i .i64 0)) fun x162 =>
  WB x162
  (OX (binD .neq .num x30 (.i .i64 4)) fun x163 =>
  OX (gsel x163 false (ldD S34 3 true x31)) fun x164 =>
  OX (gsel x163 false ((bldV [.sl 2 true [] .ro, .sl 3 true [] .ro, .i .i64 0] []).map .agg)) fun x165 =>
  OX (gsel x163 false (isoCall cf 17 [x164, x165])) fun x166 =>
  OX (gsel x163 false (unD .not x166)) fun x167 =>
  OX (pickD x163 (.b true) x167) fun x168 =>
  WB x168
  (Post (.b false) S34)
  (k39 x1 x3 D.top D.top x168 S34))
  (OX (binD .neq .num x30 (.i .i64 0)) fun x169 =>
  OX (gsel x169 false (ldD S34 3 true x31)) fun x170 =>
  OX (gsel x169 false (some a2)) fun x171 =>
  OX (gsel x169 false (some a2)) fun x172 =>
  OX (gsel x169 false (lenD false x172)) fun x173 =>
  OX (gsel x169 false (some x36)) fun x174 =>
  OX (gsel x169 false (isoCall cf 20 [x173, x174])) fun x175 =>
  OX (gsel x169 false (isoCall cf 18 [x171, x175])) fun x176 =>
  OX (gsel x169 false (isoCall cf 17 [x170, x176])) fun x177 =>
  OX (gsel x169 false (unD .not x177)) fun x178 =>
  OX (pickD x169 (.b true) x178) fun x179 =>
  WB x179
  (Post (.b false) S34)
  (k39 x1 x3 x179 D.top D.top S34)))))
theorem e3 (cf : CallF) (a0 : D) (a1 : D) (a2 : D) (a3 : D) (a4 : D) (S : Store) (Post : D → Store → Prop) : wp cf c3 (frame0 d3 [a0, a1, a2, a3, a4]) S (FinK d3.res Post) = s3 cf a0 a1 a2 a3 a4 S Post := wpS_of (by kernel_rfl)
theorem i3 (a0 : D) (a1 : D) (a2 : D) (a3 : D) (a4 : D) (r : D) (ha : noRefL (stripL [a0, a1, a2, a3, a4]) = true) (hr : noRef r = true) (h : s3 (call dp) (strip a0) (strip a1) (strip a2) (strip a3) (strip a4) [] fun d _ => stripT d = r) : isoCall (call dp) 3 [a0, a1, a2, a3, a4] = some r := iso_s (f := d3) rfl ⟨rfl, by decide⟩ ha hr (by rw [← e3] at h; exact h)
theorem j3 (a0 : D) (a1 : D) (a2 : D) (a3 : D) (a4 : D) (Post : D → Prop) (ha : noRefL (stripL [a0, a1, a2, a3, a4]) = true) (hr : ∀ r, Post r → noRef r = true) (h : s3 (call dp) (strip a0) (strip a1) (strip a2) (strip a3) (strip a4) [] fun d _ => Post (stripT d)) : ∃ r, isoCall (call dp) 3 [a0, a1, a2, a3, a4] = some r ∧ Post r := iso_x (f := d3) rfl ⟨rfl, by decide⟩ ha hr (by rw [← e3] at h; exact h)
theorem f3 (a0 : D) (a1 : D) (a2 : D) (a3 : D) (a4 : D) (S : Store) (Post : D → Store → Prop) (h : s3 (call dp) a0 a1 a2 a3 a4 S Post) : ∃ r S', call dp 3 [a0, a1, a2, a3, a4] S = some (r, S') ∧ Post r S' := call_s (f := d3) rfl ⟨rfl, by decide⟩ (by rw [← e3] at h; exact h)

end Go.Proofs.YtjlmeikcfdanmaaGreatDoor.DE
