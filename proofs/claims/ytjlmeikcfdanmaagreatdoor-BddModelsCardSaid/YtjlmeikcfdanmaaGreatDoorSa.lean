/-
  THE FUNCTIONS' CODE IN THE STYLE OF WHAT COMES NEXT. PRINTED BY tools/shallow.py of this repository; each text is checked against the code.
-/
import Derived.Test.YtjlmeikcfdanmaaGreatDoorDe24
import Derived.Test.YtjlmeikcfdanmaaGreatDoorDp
import Derived.KernelRfl
namespace Go.Proofs.YtjlmeikcfdanmaaGreatDoor.DE
open Go

/-! lineage/rowset.Valid -/
def s92 (cf : CallF) (a0 : D) (S : Store) (Post : D → Store → Prop) : Prop :=
  bxx 2 true a0 S fun x1 S2 =>
  OX (faD 0 x1) fun x3 =>
  OX (ldD S2 1 false x3) fun x4 =>
  OX (binD .geq .num x4 (.i .i64 1)) fun x5 =>
  OX (gsel x5 true (faD 1 x1)) fun x6 =>
  OX (gsel x5 true (ldD S2 1 false x6)) fun x7 =>
  OX (gsel x5 true (binD .geq .num x7 (.i .i64 1))) fun x8 =>
  OX (pickD x5 x8 (.b false)) fun x9 =>
  Post x9 S2
theorem e92 (cf : CallF) (a0 : D) (S : Store) (Post : D → Store → Prop) : wp cf c92 (frame0 d92 [a0]) S (FinK d92.res Post) = s92 cf a0 S Post := wpS_of (by kernel_rfl)
theorem i92 (a0 : D) (r : D) (ha : noRefL (stripL [a0]) = true) (hr : noRef r = true) (h : s92 (call dp) (strip a0) [] fun d _ => stripT d = r) : isoCall (call dp) 92 [a0] = some r := iso_s (f := d92) rfl ⟨rfl, by decide⟩ ha hr (by rw [← e92] at h; exact h)
theorem j92 (a0 : D) (Post : D → Prop) (ha : noRefL (stripL [a0]) = true) (hr : ∀ r, Post r → noRef r = true) (h : s92 (call dp) (strip a0) [] fun d _ => Post (stripT d)) : ∃ r, isoCall (call dp) 92 [a0] = some r ∧ Post r := iso_x (f := d92) rfl ⟨rfl, by decide⟩ ha hr (by rw [← e92] at h; exact h)
theorem f92 (a0 : D) (S : Store) (Post : D → Store → Prop) (h : s92 (call dp) a0 S Post) : ∃ r S', call dp 92 [a0] S = some (r, S') ∧ Post r S' := call_s (f := d92) rfl ⟨rfl, by decide⟩ (by rw [← e92] at h; exact h)

/-! lineage/lineageref02.Valid -/
def s51 (cf : CallF) (a0 : D) (S : Store) (Post : D → Store → Prop) : Prop :=
  bxx 2 true a0 S fun x1 S2 =>
  OX (faD 0 x1) fun x3 =>
  OX (ldD S2 1 false x3) fun x4 =>
  OX (binD .geq .num x4 (.i .i64 1)) fun x5 =>
  OX (gsel x5 true (faD 1 x1)) fun x6 =>
  OX (gsel x5 true (ldD S2 1 false x6)) fun x7 =>
  OX (gsel x5 true (binD .geq .num x7 (.i .i64 1))) fun x8 =>
  OX (pickD x5 x8 (.b false)) fun x9 =>
  Post x9 S2
theorem e51 (cf : CallF) (a0 : D) (S : Store) (Post : D → Store → Prop) : wp cf c51 (frame0 d51 [a0]) S (FinK d51.res Post) = s51 cf a0 S Post := wpS_of (by kernel_rfl)
theorem i51 (a0 : D) (r : D) (ha : noRefL (stripL [a0]) = true) (hr : noRef r = true) (h : s51 (call dp) (strip a0) [] fun d _ => stripT d = r) : isoCall (call dp) 51 [a0] = some r := iso_s (f := d51) rfl ⟨rfl, by decide⟩ ha hr (by rw [← e51] at h; exact h)
theorem j51 (a0 : D) (Post : D → Prop) (ha : noRefL (stripL [a0]) = true) (hr : ∀ r, Post r → noRef r = true) (h : s51 (call dp) (strip a0) [] fun d _ => Post (stripT d)) : ∃ r, isoCall (call dp) 51 [a0] = some r ∧ Post r := iso_x (f := d51) rfl ⟨rfl, by decide⟩ ha hr (by rw [← e51] at h; exact h)
theorem f51 (a0 : D) (S : Store) (Post : D → Store → Prop) (h : s51 (call dp) a0 S Post) : ∃ r S', call dp 51 [a0] S = some (r, S') ∧ Post r S' := call_s (f := d51) rfl ⟨rfl, by decide⟩ (by rw [← e51] at h; exact h)

/-! lineage/bdd.validOrder -/
def s48_r0 (cf : CallF) (a0 : D) (a2 : D) (a3 : D) (a7 : D) (a8 : D) (a9 : D) (a10 : D) (S : Store) (Q : Ex → List D → Store → Prop) : Prop :=
  OX (lenD false a0) fun x1 =>
  OX (binD .leq .num x1 (.i .i64 4096)) fun x2 =>
  Q .ret (mkf 27 [(0, .top), (2, x2), (3, .top), (7, .top), (8, .top), (9, .top), (10, .top)]) S
theorem e48_r0 (cf : CallF) (a0 : D) (a2 : D) (a3 : D) (a7 : D) (a8 : D) (a9 : D) (a10 : D) (S : Store) (Q : Ex → List D → Store → Prop) : wp cf c48_r0 (mkf 27 [(0, a0), (2, a2), (3, a3), (7, a7), (8, a8), (9, a9), (10, a10)]) S Q = s48_r0 cf a0 a2 a3 a7 a8 a9 a10 S Q := wpS_of (by kernel_rfl)
def s48_0 (cf : CallF) (a0 : D) (a2 : D) (a3 : D) (a7 : D) (a8 : D) (a9 : D) (a10 : D) (S : Store) (Q : Ex → List D → Store → Prop) : Prop :=
  OX (binD .lss .num a9 a8) fun x3 =>
  WB x3
  (OX (iaD 2 a7 a9) fun x4 =>
  OX (ldD S 2 true x4) fun x5 =>
  al [.i .i64 0, .i .i64 0] S fun x6 S7 =>
  OX (stD S7 2 true x6 x5) fun S9 =>
  OX (ldD S9 2 true x6) fun x10 =>
  OX (isoCall cf 92 [x10]) fun x11 =>
  OX (unD .not x11) fun x12 =>
  OX (gsel x12 false (some a3)) fun x13 =>
  OX (gsel x12 false (ldD S9 2 true x6)) fun x14 =>
  OX (gsel x12 false (lkD' (.agg [.i, .i]) false (.b false) S9 x13 x14)) fun x15 =>
  OX (pickD x12 (.b true) x15) fun x16 =>
  WB x16
  (Q .ret (mkf 27 [(0, .top), (2, (.b false)), (3, .top), (7, .top), (8, .top), (9, .top), (10, .top)]) S9)
  (OX (ldD S9 2 true x6) fun x17 =>
  OX (muD' (.agg [.i, .i]) S9 a3 x17 (.b true)) fun S19 =>
  OX (binD .add .num a9 (.i .i64 1)) fun x20 =>
  Q .normal (mkf 27 [(0, a0), (2, a2), (3, a3), (7, a7), (8, a8), (9, x20), (10, .top)]) S19))
  (Q (.exit 0) (mkf 27 [(0, a0), (2, a2), (3, a3), (7, a7), (8, a8), (9, a9), (10, x3)]) S)
theorem e48_0 (cf : CallF) (a0 : D) (a2 : D) (a3 : D) (a7 : D) (a8 : D) (a9 : D) (a10 : D) (S : Store) (Q : Ex → List D → Store → Prop) : wp cf c48_0 (fkill (mkf 27 [(0, a0), (2, a2), (3, a3), (7, a7), (8, a8), (9, a9), (10, a10)]) []) S Q = s48_0 cf a0 a2 a3 a7 a8 a9 a10 S Q := wpS_of (by kernel_rfl)
def s48 (cf : CallF) (a0 : D) (S : Store) (Post : D → Store → Prop) : Prop :=
  mm S fun x21 S22 =>
  OX (lenD false a0) fun x23 =>
  W cf (.loop [] c48_0) (mkf 27 [(0, a0), (2, .top), (3, x21), (7, a0), (8, x23), (9, (.i .i64 0)), (10, .top)]) S22 (Qblk 0 (QS cf c48_r0 (FinK [.t 2] Post)))
theorem e48 (cf : CallF) (a0 : D) (S : Store) (Post : D → Store → Prop) : wp cf c48 (frame0 d48 [a0]) S (FinK d48.res Post) = s48 cf a0 S Post := wpS_of (by kernel_rfl)
theorem i48 (a0 : D) (r : D) (ha : noRefL (stripL [a0]) = true) (hr : noRef r = true) (h : s48 (call dp) (strip a0) [] fun d _ => stripT d = r) : isoCall (call dp) 48 [a0] = some r := iso_s (f := d48) rfl ⟨rfl, by decide⟩ ha hr (by rw [← e48] at h; exact h)
theorem j48 (a0 : D) (Post : D → Prop) (ha : noRefL (stripL [a0]) = true) (hr : ∀ r, Post r → noRef r = true) (h : s48 (call dp) (strip a0) [] fun d _ => Post (stripT d)) : ∃ r, isoCall (call dp) 48 [a0] = some r ∧ Post r := iso_x (f := d48) rfl ⟨rfl, by decide⟩ ha hr (by rw [← e48] at h; exact h)
theorem f48 (a0 : D) (S : Store) (Post : D → Store → Prop) (h : s48 (call dp) a0 S Post) : ∃ r S', call dp 48 [a0] S = some (r, S') ∧ Post r S' := call_s (f := d48) rfl ⟨rfl, by decide⟩ (by rw [← e48] at h; exact h)

/-! lineage/bdd.shaped -/
def s71_r0 (cf : CallF) (a1 : D) (a2 : D) (a3 : D) (a9 : D) (a10 : D) (a11 : D) (a12 : D) (S : Store) (Q : Ex → List D → Store → Prop) : Prop :=
  OX (faD 2 a1) fun x1 =>
  OX (ldD S 1 false x1) fun x2 =>
  OX (binD .geq .num x2 (.i .i64 0)) fun x3 =>
  OX (gsel x3 true (faD 2 a1)) fun x4 =>
  OX (gsel x3 true (ldD S 1 false x4)) fun x5 =>
  OX (gsel x3 true (faD 1 a1)) fun x6 =>
  OX (gsel x3 true (ldD S 1 false x6)) fun x7 =>
  OX (gsel x3 true (lenD false x7)) fun x8 =>
  OX (gsel x3 true (binD .add .num x8 (.i .i64 2))) fun x9 =>
  OX (gsel x3 true (binD .lss .num x5 x9)) fun x10 =>
  OX (pickD x3 x10 (.b false)) fun x11 =>
  Q .ret (mkf 98 [(1, .top), (2, x11), (3, .top), (9, .top), (10, .top), (11, .top), (12, .top)]) S
theorem e71_r0 (cf : CallF) (a1 : D) (a2 : D) (a3 : D) (a9 : D) (a10 : D) (a11 : D) (a12 : D) (S : Store) (Q : Ex → List D → Store → Prop) : wp cf c71_r0 (mkf 98 [(1, a1), (2, a2), (3, a3), (9, a9), (10, a10), (11, a11), (12, a12)]) S Q = s71_r0 cf a1 a2 a3 a9 a10 a11 a12 S Q := wpS_of (by kernel_rfl)
def s71_0 (cf : CallF) (a1 : D) (a2 : D) (a3 : D) (a9 : D) (a10 : D) (a11 : D) (a12 : D) (S : Store) (Q : Ex → List D → Store → Prop) : Prop :=
  OX (binD .lss .num a11 a10) fun x12 =>
  WB x12
  (OX (iaD 3 a9 a11) fun x13 =>
  OX (ldD S 3 true x13) fun x14 =>
  al [.i .i64 0, .i .i64 0, .i .i64 0] S fun x15 S16 =>
  OX (stD S16 3 true x15 x14) fun S18 =>
  OX (faD 1 x15) fun x19 =>
  OX (ldD S18 1 false x19) fun x20 =>
  OX (binD .geq .num x20 (.i .i64 0)) fun x21 =>
  OX (gsel x21 true (faD 2 x15)) fun x22 =>
  OX (gsel x21 true (ldD S18 1 false x22)) fun x23 =>
  OX (gsel x21 true (binD .geq .num x23 (.i .i64 0))) fun x24 =>
  OX (pickD x21 x24 (.b false)) fun x25 =>
  OX (gsel x25 true (faD 1 x15)) fun x26 =>
  OX (gsel x25 true (ldD S18 1 false x26)) fun x27 =>
  OX (gsel x25 true (some a11)) fun x28 =>
  OX (gsel x25 true (binD .add .num x28 (.i .i64 2))) fun x29 =>
  OX (gsel x25 true (binD .lss .num x27 x29)) fun x30 =>
  OX (pickD x25 x30 (.b false)) fun x31 =>
  OX (gsel x31 true (faD 2 x15)) fun x32 =>
  OX (gsel x31 true (ldD S18 1 false x32)) fun x33 =>
  OX (gsel x31 true (some a11)) fun x34 =>
  OX (gsel x31 true (binD .add .num x34 (.i .i64 2))) fun x35 =>
  OX (gsel x31 true (binD .lss .num x33 x35)) fun x36 =>
  OX (pickD x31 x36 (.b false)) fun x37 =>
  OX (faD 0 x15) fun x38 =>
  OX (ldD S18 1 false x38) fun x39 =>
  OX (binD .lss .num x39 (.i .i64 0)) fun x40 =>
  OX (gsel x40 false (faD 0 x15)) fun x41 =>
  OX (gsel x40 false (ldD S18 1 false x41)) fun x42 =>
  OX (gsel x40 false (faD 0 a1)) fun x43 =>
  OX (gsel x40 false (ldD S18 1 false x43)) fun x44 =>
  OX (gsel x40 false (lenD false x44)) fun x45 =>
  OX (gsel x40 false (binD .geq .num x42 x45)) fun x46 =>
  OX (pickD x40 (.b true) x46) fun x47 =>
  OX (gsel x47 false (some x37)) fun x48 =>
  OX (gsel x47 false (unD .not x48)) fun x49 =>
  OX (pickD x47 (.b true) x49) fun x50 =>
  OX (gsel x50 false (faD 1 x15)) fun x51 =>
  OX (gsel x50 false (ldD S18 1 false x51)) fun x52 =>
  OX (gsel x50 false (faD 2 x15)) fun x53 =>
  OX (gsel x50 false (ldD S18 1 false x53)) fun x54 =>
  OX (gsel x50 false (binD .eql .num x52 x54)) fun x55 =>
  OX (pickD x50 (.b true) x55) fun x56 =>
  OX (gsel x56 false (some a3)) fun x57 =>
  OX (gsel x56 false (ldD S18 3 true x15)) fun x58 =>
  OX (gsel x56 false (lkD' (.agg [.i, .i, .i]) false (.b false) S18 x57 x58)) fun x59 =>
  OX (pickD x56 (.b true) x59) fun x60 =>
  OX (gsel x60 false (ldD S18 3 true a1)) fun x61 =>
  OX (gsel x60 false (faD 1 x15)) fun x62 =>
  OX (gsel x60 false (ldD S18 1 false x62)) fun x63 =>
  OX (gsel x60 false (isoCall cf 77 [x61, x63])) fun x64 =>
  OX (gsel x60 false (faD 0 x15)) fun x65 =>
  OX (gsel x60 false (ldD S18 1 false x65)) fun x66 =>
  OX (gsel x60 false (binD .leq .num x64 x66)) fun x67 =>
  OX (pickD x60 (.b true) x67) fun x68 =>
  OX (gsel x68 false (ldD S18 3 true a1)) fun x69 =>
  OX (gsel x68 false (faD 2 x15)) fun x70 =>
  OX (gsel x68 false (ldD S18 1 false x70)) fun x71 =>
  OX (gsel x68 false (isoCall cf 77 [x69, x71])) fun x72 =>
  OX (gsel x68 false (faD 0 x15)) fun x73 =>
  OX (gsel x68 false (ldD S18 1 false x73)) fun x74 =>
  OX (gsel x68 false (binD .leq .num x72 x74)) fun x75 =>
  OX (pickD x68 (.b true) x75) fun x76 =>
  WB x76
  (Q .ret (mkf 98 [(1, .top), (2, (.b false)), (3, .top), (9, .top), (10, .top), (11, .top), (12, .top)]) S18)
  (OX (ldD S18 3 true x15) fun x77 =>
  OX (muD' (.agg [.i, .i, .i]) S18 a3 x77 (.b true)) fun S79 =>
  OX (binD .add .num a11 (.i .i64 1)) fun x80 =>
  Q .normal (mkf 98 [(1, a1), (2, a2), (3, a3), (9, a9), (10, a10), (11, x80), (12, .top)]) S79))
  (Q (.exit 0) (mkf 98 [(1, a1), (2, a2), (3, a3), (9, a9), (10, a10), (11, a11), (12, x12)]) S)
theorem e71_0 (cf : CallF) (a1 : D) (a2 : D) (a3 : D) (a9 : D) (a10 : D) (a11 : D) (a12 : D) (S : Store) (Q : Ex → List D → Store → Prop) : wp cf c71_0 (fkill (mkf 98 [(1, a1), (2, a2), (3, a3), (9, a9), (10, a10), (11, a11), (12, a12)]) []) S Q = s71_0 cf a1 a2 a3 a9 a10 a11 a12 S Q := wpS_of (by kernel_rfl)
def s71 (cf : CallF) (a0 : D) (S : Store) (Post : D → Store → Prop) : Prop :=
  bxx 3 true a0 S fun x81 S82 =>
  mm S82 fun x83 S84 =>
  OX (faD 1 x81) fun x85 =>
  OX (ldD S84 1 false x85) fun x86 =>
  OX (lenD false x86) fun x87 =>
  W cf (.loop [] c71_0) (mkf 98 [(1, x81), (2, .top), (3, x83), (9, x86), (10, x87), (11, (.i .i64 0)), (12, .top)]) S84 (Qblk 0 (QS cf c71_r0 (FinK [.t 2] Post)))
theorem e71 (cf : CallF) (a0 : D) (S : Store) (Post : D → Store → Prop) : wp cf c71 (frame0 d71 [a0]) S (FinK d71.res Post) = s71 cf a0 S Post := wpS_of (by kernel_rfl)
theorem i71 (a0 : D) (r : D) (ha : noRefL (stripL [a0]) = true) (hr : noRef r = true) (h : s71 (call dp) (strip a0) [] fun d _ => stripT d = r) : isoCall (call dp) 71 [a0] = some r := iso_s (f := d71) rfl ⟨rfl, by decide⟩ ha hr (by rw [← e71] at h; exact h)
theorem j71 (a0 : D) (Post : D → Prop) (ha : noRefL (stripL [a0]) = true) (hr : ∀ r, Post r → noRef r = true) (h : s71 (call dp) (strip a0) [] fun d _ => Post (stripT d)) : ∃ r, isoCall (call dp) 71 [a0] = some r ∧ Post r := iso_x (f := d71) rfl ⟨rfl, by decide⟩ ha hr (by rw [← e71] at h; exact h)
theorem f71 (a0 : D) (S : Store) (Post : D → Store → Prop) (h : s71 (call dp) a0 S Post) : ∃ r S', call dp 71 [a0] S = some (r, S') ∧ Post r S' := call_s (f := d71) rfl ⟨rfl, by decide⟩ (by rw [← e71] at h; exact h)

/-! lineage/bdd.level -/
def s77 (cf : CallF) (a0 : D) (a1 : D) (S : Store) (Post : D → Store → Prop) : Prop :=
  bxx 3 true a0 S fun x1 S2 =>
  OX (binD .lss .num a1 (.i .i64 2)) fun x3 =>
  WB x3
  (OX (faD 0 x1) fun x4 =>
  OX (ldD S2 1 false x4) fun x5 =>
  OX (lenD false x5) fun x6 =>
  Post x6 S2)
  (OX (faD 1 x1) fun x7 =>
  OX (ldD S2 1 false x7) fun x8 =>
  OX (binD .sub .num a1 (.i .i64 2)) fun x9 =>
  OX (iaD 3 x8 x9) fun x10 =>
  OX (faD 0 x10) fun x11 =>
  OX (ldD S2 1 false x11) fun x12 =>
  Post x12 S2)
theorem e77 (cf : CallF) (a0 : D) (a1 : D) (S : Store) (Post : D → Store → Prop) : wp cf c77 (frame0 d77 [a0, a1]) S (FinK d77.res Post) = s77 cf a0 a1 S Post := wpS_of (by kernel_rfl)
theorem i77 (a0 : D) (a1 : D) (r : D) (ha : noRefL (stripL [a0, a1]) = true) (hr : noRef r = true) (h : s77 (call dp) (strip a0) (strip a1) [] fun d _ => stripT d = r) : isoCall (call dp) 77 [a0, a1] = some r := iso_s (f := d77) rfl ⟨rfl, by decide⟩ ha hr (by rw [← e77] at h; exact h)
theorem j77 (a0 : D) (a1 : D) (Post : D → Prop) (ha : noRefL (stripL [a0, a1]) = true) (hr : ∀ r, Post r → noRef r = true) (h : s77 (call dp) (strip a0) (strip a1) [] fun d _ => Post (stripT d)) : ∃ r, isoCall (call dp) 77 [a0, a1] = some r ∧ Post r := iso_x (f := d77) rfl ⟨rfl, by decide⟩ ha hr (by rw [← e77] at h; exact h)
theorem f77 (a0 : D) (a1 : D) (S : Store) (Post : D → Store → Prop) (h : s77 (call dp) a0 a1 S Post) : ∃ r S', call dp 77 [a0, a1] S = some (r, S') ∧ Post r S' := call_s (f := d77) rfl ⟨rfl, by decide⟩ (by rw [← e77] at h; exact h)

/-! lineage/bdd.numbered -/
def s72 (cf : CallF) (a0 : D) (a1 : D) (a2 : D) (S : Store) (Post : D → Store → Prop) : Prop :=
  bxx 1 false a1 S fun x1 S2 =>
  al [.sl 2 true [] .ro, .sl 3 true [] .ro, .i .i64 0] S2 fun x3 S4 =>
  OX (isoCall cf 49 [a0]) fun x5 =>
  OX (bldV [.sl 2 true [] .ro, .sl 3 true [] .ro, .i .i64 0] [(0, 1, false, x5)]) fun x6 =>
  al [.sl 2 true [] .ro, .sl 3 true [] .ro, .i .i64 0] S4 fun x7 S8 =>
  OX (stD S8 3 true x7 (.agg x6)) fun S10 =>
  mm S10 fun x11 S12 =>
  OX (muD' (.one .i) S12 x11 (.i .i64 0) (.i .i64 0)) fun S14 =>
  OX (muD' (.one .i) S14 x11 (.i .i64 1) (.i .i64 1)) fun S16 =>
  al [.nilm] S16 fun x17 S18 =>
  OX (stD S18 1 false x17 x11) fun S20 =>
  al [.top] S20 fun x21 S22 =>
  OX (stD S22 1 false x21 (.fn 115 [x17, x1, x21, x7])) fun S24 =>
  OX (ldD S24 1 false x21) fun x25 =>
  OX (fnD x25) fun q27 => OX (cf q27.1 ([a2] ++ q27.2) S24) fun p28 =>
  OX (faD 2 x7) fun x29 =>
  OX (stD p28.2 1 false x29 p28.1) fun S31 =>
  OX (ldD S31 3 true x7) fun x32 =>
  OX (stD S31 3 true x3 x32) fun S34 =>
  OX (ldc S34 3 true x3) fun x35 => Post x35 S34
theorem e72 (cf : CallF) (a0 : D) (a1 : D) (a2 : D) (S : Store) (Post : D → Store → Prop) : wp cf c72 (frame0 d72 [a0, a1, a2]) S (FinK d72.res Post) = s72 cf a0 a1 a2 S Post := wpS_of (by kernel_rfl)
theorem i72 (a0 : D) (a1 : D) (a2 : D) (r : D) (ha : noRefL (stripL [a0, a1, a2]) = true) (hr : noRef r = true) (h : s72 (call dp) (strip a0) (strip a1) (strip a2) [] fun d _ => stripT d = r) : isoCall (call dp) 72 [a0, a1, a2] = some r := iso_s (f := d72) rfl ⟨rfl, by decide⟩ ha hr (by rw [← e72] at h; exact h)
theorem j72 (a0 : D) (a1 : D) (a2 : D) (Post : D → Prop) (ha : noRefL (stripL [a0, a1, a2]) = true) (hr : ∀ r, Post r → noRef r = true) (h : s72 (call dp) (strip a0) (strip a1) (strip a2) [] fun d _ => Post (stripT d)) : ∃ r, isoCall (call dp) 72 [a0, a1, a2] = some r ∧ Post r := iso_x (f := d72) rfl ⟨rfl, by decide⟩ ha hr (by rw [← e72] at h; exact h)
theorem f72 (a0 : D) (a1 : D) (a2 : D) (S : Store) (Post : D → Store → Prop) (h : s72 (call dp) a0 a1 a2 S Post) : ∃ r S', call dp 72 [a0, a1, a2] S = some (r, S') ∧ Post r S' := call_s (f := d72) rfl ⟨rfl, by decide⟩ (by rw [← e72] at h; exact h)

/-! lineage/bdd.numbered$1 -/
def s115 (cf : CallF) (a0 : D) (a1 : D) (a2 : D) (a3 : D) (a4 : D) (S : Store) (Post : D → Store → Prop) : Prop :=
  OX (ldD S 1 false a1) fun x1 =>
  OX (lkD' (.one .i) true (.i .i64 0) S x1 a0) fun x2 =>
  OX (extD x2 0) fun x3 =>
  OX (extD x2 1) fun x4 =>
  WB x4
  (Post x3 S)
  (OX (ldD S 1 false a2) fun x5 =>
  OX (binD .sub .num a0 (.i .i64 2)) fun x6 =>
  OX (iaD 3 x5 x6) fun x7 =>
  OX (ldD S 3 true x7) fun x8 =>
  al [.i .i64 0, .i .i64 0, .i .i64 0] S fun x9 S10 =>
  OX (stD S10 3 true x9 x8) fun S12 =>
  OX (ldD S12 1 false a3) fun x13 =>
  OX (faD 1 x9) fun x14 =>
  OX (ldD S12 1 false x14) fun x15 =>
  OX (ldD S12 1 false a3) fun x16 =>
  OX (faD 2 x9) fun x17 =>
  OX (ldD S12 1 false x17) fun x18 =>
  OX (fnD x13) fun q20 => OX (cf q20.1 ([x15] ++ q20.2) S12) fun p21 =>
  OX (ldD p21.2 1 false a3) fun x22 => deq x22 x16 = true ∧
  (OX (ldD p21.2 1 false x17) fun x23 => deq x23 x18 = true ∧
  (OX (faD 1 x9) fun x24 =>
  OX (fnD x16) fun q26 => OX (cf q26.1 ([x18] ++ q26.2) p21.2) fun p27 =>
  OX (stD p27.2 1 false x24 p21.1) fun S29 =>
  OX (faD 2 x9) fun x30 =>
  OX (stD S29 1 false x30 p27.1) fun S32 =>
  OX (faD 1 a4) fun x33 =>
  OX (ldD S32 1 false x33) fun x34 =>
  OX (ldD S32 3 true x9) fun x35 =>
  OX (cellsV 3 true [x35]) fun x36 =>
  OX (appD 3 false x34 (.sl 3 false x36 .ro) S32) fun p38 =>
  OX (faD 1 a4) fun x39 =>
  OX (stD p38.2 1 false x39 p38.1) fun S41 =>
  OX (ldD S41 1 false a1) fun x42 =>
  OX (faD 1 a4) fun x43 =>
  OX (ldD S41 1 false x43) fun x44 =>
  OX (lenD false x44) fun x45 =>
  OX (binD .sub .num x45 (.i .i64 1)) fun x46 =>
  OX (binD .add .num x46 (.i .i64 2)) fun x47 =>
  OX (muD' (.one .i) S41 x42 a0 x47) fun S49 =>
  OX (ldD S49 1 false a1) fun x50 =>
  OX (lkD' (.one .i) false (.i .i64 0) S49 x50 a0) fun x51 =>
  Post x51 S49)))
theorem e115 (cf : CallF) (a0 : D) (a1 : D) (a2 : D) (a3 : D) (a4 : D) (S : Store) (Post : D → Store → Prop) : wp cf c115 (frame0 d115 [a0, a1, a2, a3, a4]) S (FinK d115.res Post) = s115 cf a0 a1 a2 a3 a4 S Post := wpS_of (by kernel_rfl)
theorem i115 (a0 : D) (a1 : D) (a2 : D) (a3 : D) (a4 : D) (r : D) (ha : noRefL (stripL [a0, a1, a2, a3, a4]) = true) (hr : noRef r = true) (h : s115 (call dp) (strip a0) (strip a1) (strip a2) (strip a3) (strip a4) [] fun d _ => stripT d = r) : isoCall (call dp) 115 [a0, a1, a2, a3, a4] = some r := iso_s (f := d115) rfl ⟨rfl, by decide⟩ ha hr (by rw [← e115] at h; exact h)
theorem j115 (a0 : D) (a1 : D) (a2 : D) (a3 : D) (a4 : D) (Post : D → Prop) (ha : noRefL (stripL [a0, a1, a2, a3, a4]) = true) (hr : ∀ r, Post r → noRef r = true) (h : s115 (call dp) (strip a0) (strip a1) (strip a2) (strip a3) (strip a4) [] fun d _ => Post (stripT d)) : ∃ r, isoCall (call dp) 115 [a0, a1, a2, a3, a4] = some r ∧ Post r := iso_x (f := d115) rfl ⟨rfl, by decide⟩ ha hr (by rw [← e115] at h; exact h)
theorem f115 (a0 : D) (a1 : D) (a2 : D) (a3 : D) (a4 : D) (S : Store) (Post : D → Store → Prop) (h : s115 (call dp) a0 a1 a2 a3 a4 S Post) : ∃ r S', call dp 115 [a0, a1, a2, a3, a4] S = some (r, S') ∧ Post r S' := call_s (f := d115) rfl ⟨rfl, by decide⟩ (by rw [← e115] at h; exact h)

/-! slices.Clone[[]lineage/api.RowID,lineage/api.RowID] -/
def s49 (cf : CallF) (a0 : D) (S : Store) (Post : D → Store → Prop) : Prop :=
  OX (binD .eql .sl a0 (.sl 2 true [] .ro)) fun x1 =>
  WB x1
  (Post (.sl 2 true [] .ro) S)
  (OX (cellsV 2 true []) fun x2 =>
  OX (appD 2 false (bslO 2 x2 S).1 a0 (bslO 2 x2 S).2) fun p4 =>
  Post p4.1 p4.2)
theorem e49 (cf : CallF) (a0 : D) (S : Store) (Post : D → Store → Prop) : wp cf c49 (frame0 d49 [a0]) S (FinK d49.res Post) = s49 cf a0 S Post := wpS_of (by kernel_rfl)
theorem i49 (a0 : D) (r : D) (ha : noRefL (stripL [a0]) = true) (hr : noRef r = true) (h : s49 (call dp) (strip a0) [] fun d _ => stripT d = r) : isoCall (call dp) 49 [a0] = some r := iso_s (f := d49) rfl ⟨rfl, by decide⟩ ha hr (by rw [← e49] at h; exact h)
theorem j49 (a0 : D) (Post : D → Prop) (ha : noRefL (stripL [a0]) = true) (hr : ∀ r, Post r → noRef r = true) (h : s49 (call dp) (strip a0) [] fun d _ => Post (stripT d)) : ∃ r, isoCall (call dp) 49 [a0] = some r ∧ Post r := iso_x (f := d49) rfl ⟨rfl, by decide⟩ ha hr (by rw [← e49] at h; exact h)
theorem f49 (a0 : D) (S : Store) (Post : D → Store → Prop) (h : s49 (call dp) a0 S Post) : ∃ r S', call dp 49 [a0] S = some (r, S') ∧ Post r S' := call_s (f := d49) rfl ⟨rfl, by decide⟩ (by rw [← e49] at h; exact h)

/-! slices.Equal[[]lineage/api.BDDNode,lineage/api.BDDNode] -/
def s73_r0 (cf : CallF) (a0 : D) (a1 : D) (a4 : D) (a12 : D) (a13 : D) (a14 : D) (S : Store) (Q : Ex → List D → Store → Prop) : Prop :=
  Q .ret (mkf 26 [(0, .top), (1, .top), (4, (.b true)), (12, .top), (13, .top), (14, .top)]) S
theorem e73_r0 (cf : CallF) (a0 : D) (a1 : D) (a4 : D) (a12 : D) (a13 : D) (a14 : D) (S : Store) (Q : Ex → List D → Store → Prop) : wp cf c73_r0 (mkf 26 [(0, a0), (1, a1), (4, a4), (12, a12), (13, a13), (14, a14)]) S Q = s73_r0 cf a0 a1 a4 a12 a13 a14 S Q := wpS_of (by kernel_rfl)
def s73_0 (cf : CallF) (a0 : D) (a1 : D) (a4 : D) (a12 : D) (a13 : D) (a14 : D) (S : Store) (Q : Ex → List D → Store → Prop) : Prop :=
  OX (binD .lss .num a13 a12) fun x1 =>
  WB x1
  (OX (iaD 3 a0 a13) fun x2 =>
  OX (ldD S 3 true x2) fun x3 =>
  OX (iaD 3 a1 a13) fun x4 =>
  OX (ldD S 3 true x4) fun x5 =>
  OX (binD .neq (.agg [.i, .i, .i]) x3 x5) fun x6 =>
  WB x6
  (Q .ret (mkf 26 [(0, .top), (1, .top), (4, (.b false)), (12, .top), (13, .top), (14, .top)]) S)
  (OX (binD .add .num a13 (.i .i64 1)) fun x7 =>
  Q .normal (mkf 26 [(0, a0), (1, a1), (4, a4), (12, a12), (13, x7), (14, .top)]) S))
  (Q (.exit 0) (mkf 26 [(0, a0), (1, a1), (4, a4), (12, a12), (13, a13), (14, x1)]) S)
theorem e73_0 (cf : CallF) (a0 : D) (a1 : D) (a4 : D) (a12 : D) (a13 : D) (a14 : D) (S : Store) (Q : Ex → List D → Store → Prop) : wp cf c73_0 (fkill (mkf 26 [(0, a0), (1, a1), (4, a4), (12, a12), (13, a13), (14, a14)]) []) S Q = s73_0 cf a0 a1 a4 a12 a13 a14 S Q := wpS_of (by kernel_rfl)
def s73 (cf : CallF) (a0 : D) (a1 : D) (S : Store) (Post : D → Store → Prop) : Prop :=
  OX (lenD false a0) fun x8 =>
  OX (lenD false a1) fun x9 =>
  OX (binD .neq .num x8 x9) fun x10 =>
  WB x10
  (Post (.b false) S)
  (OX (lenD false a0) fun x11 =>
  W cf (.loop [] c73_0) (mkf 26 [(0, a0), (1, a1), (4, .top), (12, x11), (13, (.i .i64 0)), (14, .top)]) S (Qblk 0 (QS cf c73_r0 (FinK [.t 4] Post))))
theorem e73 (cf : CallF) (a0 : D) (a1 : D) (S : Store) (Post : D → Store → Prop) : wp cf c73 (frame0 d73 [a0, a1]) S (FinK d73.res Post) = s73 cf a0 a1 S Post := wpS_of (by kernel_rfl)
theorem i73 (a0 : D) (a1 : D) (r : D) (ha : noRefL (stripL [a0, a1]) = true) (hr : noRef r = true) (h : s73 (call dp) (strip a0) (strip a1) [] fun d _ => stripT d = r) : isoCall (call dp) 73 [a0, a1] = some r := iso_s (f := d73) rfl ⟨rfl, by decide⟩ ha hr (by rw [← e73] at h; exact h)
theorem j73 (a0 : D) (a1 : D) (Post : D → Prop) (ha : noRefL (stripL [a0, a1]) = true) (hr : ∀ r, Post r → noRef r = true) (h : s73 (call dp) (strip a0) (strip a1) [] fun d _ => Post (stripT d)) : ∃ r, isoCall (call dp) 73 [a0, a1] = some r ∧ Post r := iso_x (f := d73) rfl ⟨rfl, by decide⟩ ha hr (by rw [← e73] at h; exact h)
theorem f73 (a0 : D) (a1 : D) (S : Store) (Post : D → Store → Prop) (h : s73 (call dp) a0 a1 S Post) : ∃ r S', call dp 73 [a0, a1] S = some (r, S') ∧ Post r S' := call_s (f := d73) rfl ⟨rfl, by decide⟩ (by rw [← e73] at h; exact h)

/-! slices.Equal[[]lineage/api.RowID,lineage/api.RowID] -/
def s74_r0 (cf : CallF) (a0 : D) (a1 : D) (a4 : D) (a12 : D) (a13 : D) (a14 : D) (S : Store) (Q : Ex → List D → Store → Prop) : Prop :=
  Q .ret (mkf 26 [(0, .top), (1, .top), (4, (.b true)), (12, .top), (13, .top), (14, .top)]) S
theorem e74_r0 (cf : CallF) (a0 : D) (a1 : D) (a4 : D) (a12 : D) (a13 : D) (a14 : D) (S : Store) (Q : Ex → List D → Store → Prop) : wp cf c74_r0 (mkf 26 [(0, a0), (1, a1), (4, a4), (12, a12), (13, a13), (14, a14)]) S Q = s74_r0 cf a0 a1 a4 a12 a13 a14 S Q := wpS_of (by kernel_rfl)
def s74_0 (cf : CallF) (a0 : D) (a1 : D) (a4 : D) (a12 : D) (a13 : D) (a14 : D) (S : Store) (Q : Ex → List D → Store → Prop) : Prop :=
  OX (binD .lss .num a13 a12) fun x1 =>
  WB x1
  (OX (iaD 2 a0 a13) fun x2 =>
  OX (ldD S 2 true x2) fun x3 =>
  OX (iaD 2 a1 a13) fun x4 =>
  OX (ldD S 2 true x4) fun x5 =>
  OX (binD .neq (.agg [.i, .i]) x3 x5) fun x6 =>
  WB x6
  (Q .ret (mkf 26 [(0, .top), (1, .top), (4, (.b false)), (12, .top), (13, .top), (14, .top)]) S)
  (OX (binD .add .num a13 (.i .i64 1)) fun x7 =>
  Q .normal (mkf 26 [(0, a0), (1, a1), (4, a4), (12, a12), (13, x7), (14, .top)]) S))
  (Q (.exit 0) (mkf 26 [(0, a0), (1, a1), (4, a4), (12, a12), (13, a13), (14, x1)]) S)
theorem e74_0 (cf : CallF) (a0 : D) (a1 : D) (a4 : D) (a12 : D) (a13 : D) (a14 : D) (S : Store) (Q : Ex → List D → Store → Prop) : wp cf c74_0 (fkill (mkf 26 [(0, a0), (1, a1), (4, a4), (12, a12), (13, a13), (14, a14)]) []) S Q = s74_0 cf a0 a1 a4 a12 a13 a14 S Q := wpS_of (by kernel_rfl)
def s74 (cf : CallF) (a0 : D) (a1 : D) (S : Store) (Post : D → Store → Prop) : Prop :=
  OX (lenD false a0) fun x8 =>
  OX (lenD false a1) fun x9 =>
  OX (binD .neq .num x8 x9) fun x10 =>
  WB x10
  (Post (.b false) S)
  (OX (lenD false a0) fun x11 =>
  W cf (.loop [] c74_0) (mkf 26 [(0, a0), (1, a1), (4, .top), (12, x11), (13, (.i .i64 0)), (14, .top)]) S (Qblk 0 (QS cf c74_r0 (FinK [.t 4] Post))))
theorem e74 (cf : CallF) (a0 : D) (a1 : D) (S : Store) (Post : D → Store → Prop) : wp cf c74 (frame0 d74 [a0, a1]) S (FinK d74.res Post) = s74 cf a0 a1 S Post := wpS_of (by kernel_rfl)
theorem i74 (a0 : D) (a1 : D) (r : D) (ha : noRefL (stripL [a0, a1]) = true) (hr : noRef r = true) (h : s74 (call dp) (strip a0) (strip a1) [] fun d _ => stripT d = r) : isoCall (call dp) 74 [a0, a1] = some r := iso_s (f := d74) rfl ⟨rfl, by decide⟩ ha hr (by rw [← e74] at h; exact h)
theorem j74 (a0 : D) (a1 : D) (Post : D → Prop) (ha : noRefL (stripL [a0, a1]) = true) (hr : ∀ r, Post r → noRef r = true) (h : s74 (call dp) (strip a0) (strip a1) [] fun d _ => Post (stripT d)) : ∃ r, isoCall (call dp) 74 [a0, a1] = some r ∧ Post r := iso_x (f := d74) rfl ⟨rfl, by decide⟩ ha hr (by rw [← e74] at h; exact h)
theorem f74 (a0 : D) (a1 : D) (S : Store) (Post : D → Store → Prop) (h : s74 (call dp) a0 a1 S Post) : ∃ r S', call dp 74 [a0, a1] S = some (r, S') ∧ Post r S' := call_s (f := d74) rfl ⟨rfl, by decide⟩ (by rw [← e74] at h; exact h)

/-! lineage/bdd.Equal -/
def s34 (cf : CallF) (a0 : D) (a1 : D) (S : Store) (Post : D → Store → Prop) : Prop :=
  bxx 3 true a0 S fun x1 S2 =>
  bxx 3 true a1 S2 fun x3 S4 =>
  OX (ldD S4 3 true x1) fun x5 =>
  OX (isoCall cf 33 [x5]) fun x6 =>
  OX (gsel x6 true (faD 2 x1)) fun x7 =>
  OX (gsel x6 true (ldD S4 1 false x7)) fun x8 =>
  OX (gsel x6 true (faD 2 x3)) fun x9 =>
  OX (gsel x6 true (ldD S4 1 false x9)) fun x10 =>
  OX (gsel x6 true (binD .eql .num x8 x10)) fun x11 =>
  OX (pickD x6 x11 (.b false)) fun x12 =>
  OX (gsel x12 true (faD 0 x1)) fun x13 =>
  OX (gsel x12 true (ldD S4 1 false x13)) fun x14 =>
  OX (gsel x12 true (faD 0 x3)) fun x15 =>
  OX (gsel x12 true (ldD S4 1 false x15)) fun x16 =>
  OX (gsel x12 true (isoCall cf 74 [x14, x16])) fun x17 =>
  OX (pickD x12 x17 (.b false)) fun x18 =>
  OX (gsel x18 true (faD 1 x1)) fun x19 =>
  OX (gsel x18 true (ldD S4 1 false x19)) fun x20 =>
  OX (gsel x18 true (faD 1 x3)) fun x21 =>
  OX (gsel x18 true (ldD S4 1 false x21)) fun x22 =>
  OX (gsel x18 true (isoCall cf 73 [x20, x22])) fun x23 =>
  OX (pickD x18 x23 (.b false)) fun x24 =>
  Post x24 S4
theorem e34 (cf : CallF) (a0 : D) (a1 : D) (S : Store) (Post : D → Store → Prop) : wp cf c34 (frame0 d34 [a0, a1]) S (FinK d34.res Post) = s34 cf a0 a1 S Post := wpS_of (by kernel_rfl)
theorem i34 (a0 : D) (a1 : D) (r : D) (ha : noRefL (stripL [a0, a1]) = true) (hr : noRef r = true) (h : s34 (call dp) (strip a0) (strip a1) [] fun d _ => stripT d = r) : isoCall (call dp) 34 [a0, a1] = some r := iso_s (f := d34) rfl ⟨rfl, by decide⟩ ha hr (by rw [← e34] at h; exact h)
theorem j34 (a0 : D) (a1 : D) (Post : D → Prop) (ha : noRefL (stripL [a0, a1]) = true) (hr : ∀ r, Post r → noRef r = true) (h : s34 (call dp) (strip a0) (strip a1) [] fun d _ => Post (stripT d)) : ∃ r, isoCall (call dp) 34 [a0, a1] = some r ∧ Post r := iso_x (f := d34) rfl ⟨rfl, by decide⟩ ha hr (by rw [← e34] at h; exact h)
theorem f34 (a0 : D) (a1 : D) (S : Store) (Post : D → Store → Prop) (h : s34 (call dp) a0 a1 S Post) : ∃ r S', call dp 34 [a0, a1] S = some (r, S') ∧ Post r S' := call_s (f := d34) rfl ⟨rfl, by decide⟩ (by rw [← e34] at h; exact h)

/-! lineage/bdd.Valid -/
def s33 (cf : CallF) (a0 : D) (S : Store) (Post : D → Store → Prop) : Prop :=
  bxx 3 true a0 S fun x1 S2 =>
  OX (faD 0 x1) fun x3 =>
  OX (ldD S2 1 false x3) fun x4 =>
  OX (isoCall cf 48 [x4]) fun x5 =>
  OX (unD .not x5) fun x6 =>
  OX (gsel x6 false (faD 1 x1)) fun x7 =>
  OX (gsel x6 false (ldD S2 1 false x7)) fun x8 =>
  OX (gsel x6 false (lenD false x8)) fun x9 =>
  OX (gsel x6 false (binD .gtr .num x9 (.i .i64 4096))) fun x10 =>
  OX (pickD x6 (.b true) x10) fun x11 =>
  OX (gsel x11 false (ldD S2 3 true x1)) fun x12 =>
  OX (gsel x11 false (isoCall cf 71 [x12])) fun x13 =>
  OX (gsel x11 false (unD .not x13)) fun x14 =>
  OX (pickD x11 (.b true) x14) fun x15 =>
  WB x15
  (Post (.b false) S2)
  (OX (faD 0 x1) fun x16 =>
  OX (ldD S2 1 false x16) fun x17 =>
  OX (faD 1 x1) fun x18 =>
  OX (ldD S2 1 false x18) fun x19 =>
  OX (faD 2 x1) fun x20 =>
  OX (ldD S2 1 false x20) fun x21 =>
  OX (isoCall cf 72 [x17, x19, x21]) fun x22 =>
  al [.sl 2 true [] .ro, .sl 3 true [] .ro, .i .i64 0] S2 fun x23 S24 =>
  OX (stD S24 3 true x23 x22) fun S26 =>
  OX (faD 2 x23) fun x27 =>
  OX (ldD S26 1 false x27) fun x28 =>
  OX (faD 2 x1) fun x29 =>
  OX (ldD S26 1 false x29) fun x30 =>
  OX (binD .eql .num x28 x30) fun x31 =>
  OX (gsel x31 true (faD 1 x23)) fun x32 =>
  OX (gsel x31 true (ldD S26 1 false x32)) fun x33 =>
  OX (gsel x31 true (faD 1 x1)) fun x34 =>
  OX (gsel x31 true (ldD S26 1 false x34)) fun x35 =>
  OX (gsel x31 true (isoCall cf 73 [x33, x35])) fun x36 =>
  OX (pickD x31 x36 (.b false)) fun x37 =>
  Post x37 S26)
theorem e33 (cf : CallF) (a0 : D) (S : Store) (Post : D → Store → Prop) : wp cf c33 (frame0 d33 [a0]) S (FinK d33.res Post) = s33 cf a0 S Post := wpS_of (by kernel_rfl)
theorem i33 (a0 : D) (r : D) (ha : noRefL (stripL [a0]) = true) (hr : noRef r = true) (h : s33 (call dp) (strip a0) [] fun d _ => stripT d = r) : isoCall (call dp) 33 [a0] = some r := iso_s (f := d33) rfl ⟨rfl, by decide⟩ ha hr (by rw [← e33] at h; exact h)
theorem j33 (a0 : D) (Post : D → Prop) (ha : noRefL (stripL [a0]) = true) (hr : ∀ r, Post r → noRef r = true) (h : s33 (call dp) (strip a0) [] fun d _ => Post (stripT d)) : ∃ r, isoCall (call dp) 33 [a0] = some r ∧ Post r := iso_x (f := d33) rfl ⟨rfl, by decide⟩ ha hr (by rw [← e33] at h; exact h)
theorem f33 (a0 : D) (S : Store) (Post : D → Store → Prop) (h : s33 (call dp) a0 S Post) : ∃ r S', call dp 33 [a0] S = some (r, S') ∧ Post r S' := call_s (f := d33) rfl ⟨rfl, by decide⟩ (by rw [← e33] at h; exact h)

/-! lineage/lineagelaw11.few -/
def s11 (cf : CallF) (a0 : D) (S : Store) (Post : D → Store → Prop) : Prop :=
  bxx 3 true a0 S fun x1 S2 =>
  OX (faD 0 x1) fun x3 =>
  OX (ldD S2 1 false x3) fun x4 =>
  OX (isoCall cf 12 [x4]) fun x5 =>
  OX (gsel x5 true (faD 1 x1)) fun x6 =>
  OX (gsel x5 true (ldD S2 1 false x6)) fun x7 =>
  OX (gsel x5 true (lenD false x7)) fun x8 =>
  OX (gsel x5 true (binD .leq .num x8 (.i .i64 40))) fun x9 =>
  OX (pickD x5 x9 (.b false)) fun x10 =>
  Post x10 S2
theorem e11 (cf : CallF) (a0 : D) (S : Store) (Post : D → Store → Prop) : wp cf c11 (frame0 d11 [a0]) S (FinK d11.res Post) = s11 cf a0 S Post := wpS_of (by kernel_rfl)
theorem i11 (a0 : D) (r : D) (ha : noRefL (stripL [a0]) = true) (hr : noRef r = true) (h : s11 (call dp) (strip a0) [] fun d _ => stripT d = r) : isoCall (call dp) 11 [a0] = some r := iso_s (f := d11) rfl ⟨rfl, by decide⟩ ha hr (by rw [← e11] at h; exact h)
theorem j11 (a0 : D) (Post : D → Prop) (ha : noRefL (stripL [a0]) = true) (hr : ∀ r, Post r → noRef r = true) (h : s11 (call dp) (strip a0) [] fun d _ => Post (stripT d)) : ∃ r, isoCall (call dp) 11 [a0] = some r ∧ Post r := iso_x (f := d11) rfl ⟨rfl, by decide⟩ ha hr (by rw [← e11] at h; exact h)
theorem f11 (a0 : D) (S : Store) (Post : D → Store → Prop) (h : s11 (call dp) a0 S Post) : ∃ r S', call dp 11 [a0] S = some (r, S') ∧ Post r S' := call_s (f := d11) rfl ⟨rfl, by decide⟩ (by rw [← e11] at h; exact h)

/-! lineage/lineagelaw11.short -/
def s12 (cf : CallF) (a0 : D) (S : Store) (Post : D → Store → Prop) : Prop :=
  OX (lenD false a0) fun x1 =>
  OX (binD .leq .num x1 (.i .i64 7)) fun x2 =>
  Post x2 S
theorem e12 (cf : CallF) (a0 : D) (S : Store) (Post : D → Store → Prop) : wp cf c12 (frame0 d12 [a0]) S (FinK d12.res Post) = s12 cf a0 S Post := wpS_of (by kernel_rfl)
theorem i12 (a0 : D) (r : D) (ha : noRefL (stripL [a0]) = true) (hr : noRef r = true) (h : s12 (call dp) (strip a0) [] fun d _ => stripT d = r) : isoCall (call dp) 12 [a0] = some r := iso_s (f := d12) rfl ⟨rfl, by decide⟩ ha hr (by rw [← e12] at h; exact h)
theorem j12 (a0 : D) (Post : D → Prop) (ha : noRefL (stripL [a0]) = true) (hr : ∀ r, Post r → noRef r = true) (h : s12 (call dp) (strip a0) [] fun d _ => Post (stripT d)) : ∃ r, isoCall (call dp) 12 [a0] = some r ∧ Post r := iso_x (f := d12) rfl ⟨rfl, by decide⟩ ha hr (by rw [← e12] at h; exact h)
theorem f12 (a0 : D) (S : Store) (Post : D → Store → Prop) (h : s12 (call dp) a0 S Post) : ∃ r S', call dp 12 [a0] S = some (r, S') ∧ Post r S' := call_s (f := d12) rfl ⟨rfl, by decide⟩ (by rw [← e12] at h; exact h)

/-! lineage/lineageref11.Valid -/
def s24_r1 (cf : CallF) (a1 : D) (a2 : D) (a3 : D) (a4 : D) (a5 : D) (a6 : D) (a7 : D) (a36 : D) (a104 : D) (a121 : D) (S : Store) (Q : Ex → List D → Store → Prop) : Prop :=
  OX (lenD false a6) fun x1 =>
  OX (faD 1 a1) fun x2 =>
  OX (ldD S 1 false x2) fun x3 =>
  OX (lenD false x3) fun x4 =>
  OX (binD .eql .num x1 x4) fun x5 =>
  Q .ret (mkf 137 [(1, .top), (2, x5), (3, a3), (4, a4), (5, a5), (6, .top), (7, .top), (36, a36), (104, a104), (121, .top)]) S
theorem e24_r1 (cf : CallF) (a1 : D) (a2 : D) (a3 : D) (a4 : D) (a5 : D) (a6 : D) (a7 : D) (a36 : D) (a104 : D) (a121 : D) (S : Store) (Q : Ex → List D → Store → Prop) : wp cf c24_r1 (mkf 137 [(1, a1), (2, a2), (3, a3), (4, a4), (5, a5), (6, a6), (7, a7), (36, a36), (104, a104), (121, a121)]) S Q = s24_r1 cf a1 a2 a3 a4 a5 a6 a7 a36 a104 a121 S Q := wpS_of (by kernel_rfl)
def s24_0 (cf : CallF) (a1 : D) (a2 : D) (a3 : D) (a4 : D) (a5 : D) (a6 : D) (a7 : D) (a36 : D) (a104 : D) (a121 : D) (S : Store) (Q : Ex → List D → Store → Prop) : Prop :=
  OX (lenD false a6) fun x6 =>
  OX (binD .lss .num a7 x6) fun x7 =>
  WB x7
  (OX (iaD 1 a6 a7) fun x8 =>
  OX (ldD S 1 false x8) fun x9 =>
  OX (binD .add .num a7 (.i .i64 2)) fun x10 =>
  OX (binD .neq .num x9 x10) fun x11 =>
  WB x11
  (Q .ret (mkf 137 [(1, .top), (2, (.b false)), (3, a3), (4, a4), (5, a5), (6, .top), (7, .top), (36, a36), (104, a104), (121, .top)]) S)
  (OX (binD .add .num a7 (.i .i64 1)) fun x12 =>
  Q .normal (mkf 137 [(1, a1), (2, a2), (3, a3), (4, a4), (5, a5), (6, a6), (7, x12), (36, a36), (104, a104), (121, .top)]) S))
  (Q (.exit 4) (mkf 137 [(1, a1), (2, a2), (3, a3), (4, a4), (5, a5), (6, a6), (7, a7), (36, a36), (104, a104), (121, x7)]) S)
theorem e24_0 (cf : CallF) (a1 : D) (a2 : D) (a3 : D) (a4 : D) (a5 : D) (a6 : D) (a7 : D) (a36 : D) (a104 : D) (a121 : D) (S : Store) (Q : Ex → List D → Store → Prop) : wp cf c24_0 (fkill (mkf 137 [(1, a1), (2, a2), (3, a3), (4, a4), (5, a5), (6, a6), (7, a7), (36, a36), (104, a104), (121, a121)]) []) S Q = s24_0 cf a1 a2 a3 a4 a5 a6 a7 a36 a104 a121 S Q := wpS_of (by kernel_rfl)
def s24_r0 (cf : CallF) (a1 : D) (a2 : D) (a3 : D) (a4 : D) (a5 : D) (a6 : D) (a7 : D) (a36 : D) (a104 : D) (a121 : D) (S : Store) (Q : Ex → List D → Store → Prop) : Prop :=
  OX (binD .add .num a3 (.i .i64 1)) fun x13 =>
  Q .normal (mkf 137 [(1, a1), (2, a2), (3, x13), (4, .top), (5, .top), (6, a6), (7, a7), (36, a36), (104, .top), (121, a121)]) S
theorem e24_r0 (cf : CallF) (a1 : D) (a2 : D) (a3 : D) (a4 : D) (a5 : D) (a6 : D) (a7 : D) (a36 : D) (a104 : D) (a121 : D) (S : Store) (Q : Ex → List D → Store → Prop) : wp cf c24_r0 (mkf 137 [(1, a1), (2, a2), (3, a3), (4, a4), (5, a5), (6, a6), (7, a7), (36, a36), (104, a104), (121, a121)]) S Q = s24_r0 cf a1 a2 a3 a4 a5 a6 a7 a36 a104 a121 S Q := wpS_of (by kernel_rfl)
def s24_1 (cf : CallF) (a1 : D) (a2 : D) (a3 : D) (a4 : D) (a5 : D) (a6 : D) (a7 : D) (a36 : D) (a104 : D) (a121 : D) (S : Store) (Q : Ex → List D → Store → Prop) : Prop :=
  OX (binD .lss .num a5 a3) fun x14 =>
  WB x14
  (OX (faD 1 a1) fun x15 =>
  OX (ldD S 1 false x15) fun x16 =>
  OX (iaD 3 x16 a5) fun x17 =>
  OX (ldD S 3 true x17) fun x18 =>
  OX (ldD S 3 true a4) fun x19 =>
  OX (binD .eql (.agg [.i, .i, .i]) x18 x19) fun x20 =>
  WB x20
  (Q .ret (mkf 137 [(1, .top), (2, (.b false)), (3, .top), (4, .top), (5, .top), (6, a6), (7, a7), (36, a36), (104, .top), (121, a121)]) S)
  (OX (binD .add .num a5 (.i .i64 1)) fun x21 =>
  Q .normal (mkf 137 [(1, a1), (2, a2), (3, a3), (4, a4), (5, x21), (6, a6), (7, a7), (36, a36), (104, .top), (121, a121)]) S))
  (Q (.exit 2) (mkf 137 [(1, a1), (2, a2), (3, a3), (4, a4), (5, a5), (6, a6), (7, a7), (36, a36), (104, x14), (121, a121)]) S)
theorem e24_1 (cf : CallF) (a1 : D) (a2 : D) (a3 : D) (a4 : D) (a5 : D) (a6 : D) (a7 : D) (a36 : D) (a104 : D) (a121 : D) (S : Store) (Q : Ex → List D → Store → Prop) : wp cf c24_1 (fkill (mkf 137 [(1, a1), (2, a2), (3, a3), (4, a4), (5, a5), (6, a6), (7, a7), (36, a36), (104, a104), (121, a121)]) []) S Q = s24_1 cf a1 a2 a3 a4 a5 a6 a7 a36 a104 a121 S Q := wpS_of (by kernel_rfl)
def s24_r2 (cf : CallF) (a1 : D) (a2 : D) (a3 : D) (a4 : D) (a5 : D) (a6 : D) (a7 : D) (a36 : D) (a104 : D) (a121 : D) (S : Store) (Q : Ex → List D → Store → Prop) : Prop :=
  OX (ldD S 3 true a1) fun x22 =>
  OX (faD 2 a1) fun x23 =>
  OX (ldD S 1 false x23) fun x24 =>
  OX (cf 57 [x22, x24, (.sl 1 true [] .ro)] S) fun p26 =>
  W cf (.loop [] c24_0) (mkf 137 [(1, a1), (2, a2), (3, .top), (4, a4), (5, a5), (6, p26.1), (7, (.i .i64 0)), (36, .top), (104, a104), (121, a121)]) p26.2 (Qblk 4 (QS cf c24_r1 Q))
theorem e24_r2 (cf : CallF) (a1 : D) (a2 : D) (a3 : D) (a4 : D) (a5 : D) (a6 : D) (a7 : D) (a36 : D) (a104 : D) (a121 : D) (S : Store) (Q : Ex → List D → Store → Prop) : wp cf c24_r2 (mkf 137 [(1, a1), (2, a2), (3, a3), (4, a4), (5, a5), (6, a6), (7, a7), (36, a36), (104, a104), (121, a121)]) S Q = s24_r2 cf a1 a2 a3 a4 a5 a6 a7 a36 a104 a121 S Q := wpS_of (by kernel_rfl)
def s24_2 (cf : CallF) (a1 : D) (a2 : D) (a3 : D) (a4 : D) (a5 : D) (a6 : D) (a7 : D) (a36 : D) (a104 : D) (a121 : D) (S : Store) (Q : Ex → List D → Store → Prop) : Prop :=
  OX (faD 1 a1) fun x27 =>
  OX (ldD S 1 false x27) fun x28 =>
  OX (lenD false x28) fun x29 =>
  OX (binD .lss .num a3 x29) fun x30 =>
  WB x30
  (OX (faD 1 a1) fun x31 =>
  OX (ldD S 1 false x31) fun x32 =>
  OX (iaD 3 x32 a3) fun x33 =>
  OX (ldD S 3 true x33) fun x34 =>
  al [.i .i64 0, .i .i64 0, .i .i64 0] S fun x35 S36 =>
  OX (stD S36 3 true x35 x34) fun S38 =>
  OX (faD 0 x35) fun x39 =>
  OX (ldD S38 1 false x39) fun x40 =>
  OX (binD .lss .num x40 (.i .i64 0)) fun x41 =>
  OX (gsel x41 false (faD 0 x35)) fun x42 =>
  OX (gsel x41 false (ldD S38 1 false x42)) fun x43 =>
  OX (gsel x41 false (faD 0 a1)) fun x44 =>
  OX (gsel x41 false (ldD S38 1 false x44)) fun x45 =>
  OX (gsel x41 false (lenD false x45)) fun x46 =>
  OX (gsel x41 false (binD .geq .num x43 x46)) fun x47 =>
  OX (pickD x41 (.b true) x47) fun x48 =>
  OX (gsel x48 false (faD 1 x35)) fun x49 =>
  OX (gsel x48 false (ldD S38 1 false x49)) fun x50 =>
  OX (gsel x48 false (binD .lss .num x50 (.i .i64 0))) fun x51 =>
  OX (pickD x48 (.b true) x51) fun x52 =>
  OX (gsel x52 false (faD 2 x35)) fun x53 =>
  OX (gsel x52 false (ldD S38 1 false x53)) fun x54 =>
  OX (gsel x52 false (binD .lss .num x54 (.i .i64 0))) fun x55 =>
  OX (pickD x52 (.b true) x55) fun x56 =>
  OX (gsel x56 false (faD 1 x35)) fun x57 =>
  OX (gsel x56 false (ldD S38 1 false x57)) fun x58 =>
  OX (gsel x56 false (some a3)) fun x59 =>
  OX (gsel x56 false (binD .add .num x59 (.i .i64 2))) fun x60 =>
  OX (gsel x56 false (binD .geq .num x58 x60)) fun x61 =>
  OX (pickD x56 (.b true) x61) fun x62 =>
  OX (gsel x62 false (faD 2 x35)) fun x63 =>
  OX (gsel x62 false (ldD S38 1 false x63)) fun x64 =>
  OX (gsel x62 false (some a3)) fun x65 =>
  OX (gsel x62 false (binD .add .num x65 (.i .i64 2))) fun x66 =>
  OX (gsel x62 false (binD .geq .num x64 x66)) fun x67 =>
  OX (pickD x62 (.b true) x67) fun x68 =>
  OX (gsel x68 false (faD 1 x35)) fun x69 =>
  OX (gsel x68 false (ldD S38 1 false x69)) fun x70 =>
  OX (gsel x68 false (faD 2 x35)) fun x71 =>
  OX (gsel x68 false (ldD S38 1 false x71)) fun x72 =>
  OX (gsel x68 false (binD .eql .num x70 x72)) fun x73 =>
  OX (pickD x68 (.b true) x73) fun x74 =>
  WB x74
  (Q .ret (mkf 137 [(1, .top), (2, (.b false)), (3, .top), (4, .top), (5, a5), (6, a6), (7, a7), (36, .top), (104, a104), (121, a121)]) S38)
  (OX (ldD S38 3 true a1) fun x75 =>
  OX (faD 1 x35) fun x76 =>
  OX (ldD S38 1 false x76) fun x77 =>
  OX (isoCall cf 56 [x75, x77]) fun x78 =>
  OX (faD 0 x35) fun x79 =>
  OX (ldD S38 1 false x79) fun x80 =>
  OX (binD .leq .num x78 x80) fun x81 =>
  OX (gsel x81 false (ldD S38 3 true a1)) fun x82 =>
  OX (gsel x81 false (faD 2 x35)) fun x83 =>
  OX (gsel x81 false (ldD S38 1 false x83)) fun x84 =>
  OX (gsel x81 false (isoCall cf 56 [x82, x84])) fun x85 =>
  OX (gsel x81 false (faD 0 x35)) fun x86 =>
  OX (gsel x81 false (ldD S38 1 false x86)) fun x87 =>
  OX (gsel x81 false (binD .leq .num x85 x87)) fun x88 =>
  OX (pickD x81 (.b true) x88) fun x89 =>
  WB x89
  (Q .ret (mkf 137 [(1, .top), (2, (.b false)), (3, .top), (4, .top), (5, a5), (6, a6), (7, a7), (36, .top), (104, a104), (121, a121)]) S38)
  (W cf (.loop [] c24_1) (mkf 137 [(1, a1), (2, a2), (3, a3), (4, x35), (5, (.i .i64 0)), (6, a6), (7, a7), (36, .top), (104, a104), (121, a121)]) S38 (Qblk 2 (Qblk 1 (QS cf c24_r0 Q))))))
  (Q (.exit 0) (mkf 137 [(1, a1), (2, a2), (3, a3), (4, a4), (5, a5), (6, a6), (7, a7), (36, x30), (104, a104), (121, a121)]) S)
theorem e24_2 (cf : CallF) (a1 : D) (a2 : D) (a3 : D) (a4 : D) (a5 : D) (a6 : D) (a7 : D) (a36 : D) (a104 : D) (a121 : D) (S : Store) (Q : Ex → List D → Store → Prop) : wp cf c24_2 (fkill (mkf 137 [(1, a1), (2, a2), (3, a3), (4, a4), (5, a5), (6, a6), (7, a7), (36, a36), (104, a104), (121, a121)]) []) S Q = s24_2 cf a1 a2 a3 a4 a5 a6 a7 a36 a104 a121 S Q := wpS_of (by kernel_rfl)
def s24 (cf : CallF) (a0 : D) (S : Store) (Post : D → Store → Prop) : Prop :=
  bxx 3 true a0 S fun x90 S91 =>
  OX (faD 0 x90) fun x92 =>
  OX (ldD S91 1 false x92) fun x93 =>
  OX (isoCall cf 16 [x93]) fun x94 =>
  OX (unD .not x94) fun x95 =>
  OX (gsel x95 false (faD 1 x90)) fun x96 =>
  OX (gsel x95 false (ldD S91 1 false x96)) fun x97 =>
  OX (gsel x95 false (lenD false x97)) fun x98 =>
  OX (gsel x95 false (binD .gtr .num x98 (.i .i64 4096))) fun x99 =>
  OX (pickD x95 (.b true) x99) fun x100 =>
  OX (gsel x100 false (faD 2 x90)) fun x101 =>
  OX (gsel x100 false (ldD S91 1 false x101)) fun x102 =>
  OX (gsel x100 false (binD .lss .num x102 (.i .i64 0))) fun x103 =>
  OX (pickD x100 (.b true) x103) fun x104 =>
  OX (gsel x104 false (faD 2 x90)) fun x105 =>
  OX (gsel x104 false (ldD S91 1 false x105)) fun x106 =>
  OX (gsel x104 false (faD 1 x90)) fun x107 =>
  OX (gsel x104 false (ldD S91 1 false x107)) fun x108 =>
  OX (gsel x104 false (lenD false x108)) fun x109 =>
  OX (gsel x104 false (binD .add .num x109 (.i .i64 2))) fun x110 =>
  OX (gsel x104 false (binD .geq .num x106 x110)) fun x111 =>
  OX (pickD x104 (.b true) x111) fun x112 =>
  WB x112
  (Post (.b false) S91)
  (W cf (.loop [] c24_2) (mkf 137 [(1, x90), (2, .top), (3, (.i .i64 0)), (4, .top), (5, .top), (6, .top), (7, .top), (36, .top), (104, .top), (121, .top)]) S91 (Qblk 0 (QS cf c24_r2 (FinK [.t 2] Post))))
theorem e24 (cf : CallF) (a0 : D) (S : Store) (Post : D → Store → Prop) : wp cf c24 (frame0 d24 [a0]) S (FinK d24.res Post) = s24 cf a0 S Post := wpS_of (by kernel_rfl)
theorem i24 (a0 : D) (r : D) (ha : noRefL (stripL [a0]) = true) (hr : noRef r = true) (h : s24 (call dp) (strip a0) [] fun d _ => stripT d = r) : isoCall (call dp) 24 [a0] = some r := iso_s (f := d24) rfl ⟨rfl, by decide⟩ ha hr (by rw [← e24] at h; exact h)
theorem j24 (a0 : D) (Post : D → Prop) (ha : noRefL (stripL [a0]) = true) (hr : ∀ r, Post r → noRef r = true) (h : s24 (call dp) (strip a0) [] fun d _ => Post (stripT d)) : ∃ r, isoCall (call dp) 24 [a0] = some r ∧ Post r := iso_x (f := d24) rfl ⟨rfl, by decide⟩ ha hr (by rw [← e24] at h; exact h)
theorem f24 (a0 : D) (S : Store) (Post : D → Store → Prop) (h : s24 (call dp) a0 S Post) : ∃ r S', call dp 24 [a0] S = some (r, S') ∧ Post r S' := call_s (f := d24) rfl ⟨rfl, by decide⟩ (by rw [← e24] at h; exact h)

/-! lineage/lineageref11.walk -/
def s57_r0 (cf : CallF) (a1 : D) (a2 : D) (a3 : D) (a6 : D) (a7 : D) (a14 : D) (S : Store) (Q : Ex → List D → Store → Prop) : Prop :=
  OX (ldD S 3 true a3) fun x1 =>
  OX (faD 1 a3) fun x2 =>
  OX (ldD S 1 false x2) fun x3 =>
  OX (binD .sub .num a1 (.i .i64 2)) fun x4 =>
  OX (iaD 3 x3 x4) fun x5 =>
  OX (faD 1 x5) fun x6 =>
  OX (ldD S 1 false x6) fun x7 =>
  OX (cf 57 [x1, x7, a2] S) fun p9 =>
  OX (ldD p9.2 3 true a3) fun x10 =>
  OX (faD 1 a3) fun x11 =>
  OX (ldD p9.2 1 false x11) fun x12 =>
  OX (binD .sub .num a1 (.i .i64 2)) fun x13 =>
  OX (iaD 3 x12 x13) fun x14 =>
  OX (faD 2 x14) fun x15 =>
  OX (ldD p9.2 1 false x15) fun x16 =>
  OX (cf 57 [x10, x16, p9.1] p9.2) fun p18 =>
  OX (cellsV 1 false [a1]) fun x19 =>
  OX (appD 1 false p18.1 (.sl 1 false x19 .ro) p18.2) fun p21 =>
  Q .ret (mkf 48 [(1, .top), (2, .top), (3, .top), (6, p21.1), (7, .top), (14, .top)]) p21.2
theorem e57_r0 (cf : CallF) (a1 : D) (a2 : D) (a3 : D) (a6 : D) (a7 : D) (a14 : D) (S : Store) (Q : Ex → List D → Store → Prop) : wp cf c57_r0 (mkf 48 [(1, a1), (2, a2), (3, a3), (6, a6), (7, a7), (14, a14)]) S Q = s57_r0 cf a1 a2 a3 a6 a7 a14 S Q := wpS_of (by kernel_rfl)
def s57_0 (cf : CallF) (a1 : D) (a2 : D) (a3 : D) (a6 : D) (a7 : D) (a14 : D) (S : Store) (Q : Ex → List D → Store → Prop) : Prop :=
  OX (lenD false a2) fun x22 =>
  OX (binD .lss .num a7 x22) fun x23 =>
  WB x23
  (OX (iaD 1 a2 a7) fun x24 =>
  OX (ldD S 1 false x24) fun x25 =>
  OX (binD .eql .num x25 a1) fun x26 =>
  WB x26
  (Q .ret (mkf 48 [(1, .top), (2, .top), (3, .top), (6, a2), (7, .top), (14, .top)]) S)
  (OX (binD .add .num a7 (.i .i64 1)) fun x27 =>
  Q .normal (mkf 48 [(1, a1), (2, a2), (3, a3), (6, a6), (7, x27), (14, .top)]) S))
  (Q (.exit 0) (mkf 48 [(1, a1), (2, a2), (3, a3), (6, a6), (7, a7), (14, x23)]) S)
theorem e57_0 (cf : CallF) (a1 : D) (a2 : D) (a3 : D) (a6 : D) (a7 : D) (a14 : D) (S : Store) (Q : Ex → List D → Store → Prop) : wp cf c57_0 (fkill (mkf 48 [(1, a1), (2, a2), (3, a3), (6, a6), (7, a7), (14, a14)]) []) S Q = s57_0 cf a1 a2 a3 a6 a7 a14 S Q := wpS_of (by kernel_rfl)
def s57 (cf : CallF) (a0 : D) (a1 : D) (a2 : D) (S : Store) (Post : D → Store → Prop) : Prop :=
  bxx 3 true a0 S fun x28 S29 =>
  OX (binD .lss .num a1 (.i .i64 2)) fun x30 =>
  WB x30
  (Post a2 S29)
  (W cf (.loop [] c57_0) (mkf 48 [(1, a1), (2, a2), (3, x28), (6, .top), (7, (.i .i64 0)), (14, .top)]) S29 (Qblk 0 (QS cf c57_r0 (FinK [.t 6] Post))))
theorem e57 (cf : CallF) (a0 : D) (a1 : D) (a2 : D) (S : Store) (Post : D → Store → Prop) : wp cf c57 (frame0 d57 [a0, a1, a2]) S (FinK d57.res Post) = s57 cf a0 a1 a2 S Post := wpS_of (by kernel_rfl)
theorem i57 (a0 : D) (a1 : D) (a2 : D) (r : D) (ha : noRefL (stripL [a0, a1, a2]) = true) (hr : noRef r = true) (h : s57 (call dp) (strip a0) (strip a1) (strip a2) [] fun d _ => stripT d = r) : isoCall (call dp) 57 [a0, a1, a2] = some r := iso_s (f := d57) rfl ⟨rfl, by decide⟩ ha hr (by rw [← e57] at h; exact h)
theorem j57 (a0 : D) (a1 : D) (a2 : D) (Post : D → Prop) (ha : noRefL (stripL [a0, a1, a2]) = true) (hr : ∀ r, Post r → noRef r = true) (h : s57 (call dp) (strip a0) (strip a1) (strip a2) [] fun d _ => Post (stripT d)) : ∃ r, isoCall (call dp) 57 [a0, a1, a2] = some r ∧ Post r := iso_x (f := d57) rfl ⟨rfl, by decide⟩ ha hr (by rw [← e57] at h; exact h)
theorem f57 (a0 : D) (a1 : D) (a2 : D) (S : Store) (Post : D → Store → Prop) (h : s57 (call dp) a0 a1 a2 S Post) : ∃ r S', call dp 57 [a0, a1, a2] S = some (r, S') ∧ Post r S' := call_s (f := d57) rfl ⟨rfl, by decide⟩ (by rw [← e57] at h; exact h)

/-! lineage/lineageref11.variable -/
def s56 (cf : CallF) (a0 : D) (a1 : D) (S : Store) (Post : D → Store → Prop) : Prop :=
  bxx 3 true a0 S fun x1 S2 =>
  OX (binD .lss .num a1 (.i .i64 2)) fun x3 =>
  WB x3
  (OX (faD 0 x1) fun x4 =>
  OX (ldD S2 1 false x4) fun x5 =>
  OX (lenD false x5) fun x6 =>
  Post x6 S2)
  (OX (faD 1 x1) fun x7 =>
  OX (ldD S2 1 false x7) fun x8 =>
  OX (binD .sub .num a1 (.i .i64 2)) fun x9 =>
  OX (iaD 3 x8 x9) fun x10 =>
  OX (faD 0 x10) fun x11 =>
  OX (ldD S2 1 false x11) fun x12 =>
  Post x12 S2)
theorem e56 (cf : CallF) (a0 : D) (a1 : D) (S : Store) (Post : D → Store → Prop) : wp cf c56 (frame0 d56 [a0, a1]) S (FinK d56.res Post) = s56 cf a0 a1 S Post := wpS_of (by kernel_rfl)
theorem i56 (a0 : D) (a1 : D) (r : D) (ha : noRefL (stripL [a0, a1]) = true) (hr : noRef r = true) (h : s56 (call dp) (strip a0) (strip a1) [] fun d _ => stripT d = r) : isoCall (call dp) 56 [a0, a1] = some r := iso_s (f := d56) rfl ⟨rfl, by decide⟩ ha hr (by rw [← e56] at h; exact h)
theorem j56 (a0 : D) (a1 : D) (Post : D → Prop) (ha : noRefL (stripL [a0, a1]) = true) (hr : ∀ r, Post r → noRef r = true) (h : s56 (call dp) (strip a0) (strip a1) [] fun d _ => Post (stripT d)) : ∃ r, isoCall (call dp) 56 [a0, a1] = some r ∧ Post r := iso_x (f := d56) rfl ⟨rfl, by decide⟩ ha hr (by rw [← e56] at h; exact h)
theorem f56 (a0 : D) (a1 : D) (S : Store) (Post : D → Store → Prop) (h : s56 (call dp) a0 a1 S Post) : ∃ r S', call dp 56 [a0, a1] S = some (r, S') ∧ Post r S' := call_s (f := d56) rfl ⟨rfl, by decide⟩ (by rw [← e56] at h; exact h)

/-! lineage/lineageref11.Order -/
def s16_r0 (cf : CallF) (a0 : D) (a2 : D) (a3 : D) (a4 : D) (a8 : D) (a19 : D) (S : Store) (Q : Ex → List D → Store → Prop) : Prop :=
  OX (binD .add .num a3 (.i .i64 1)) fun x1 =>
  Q .normal (mkf 34 [(0, a0), (2, a2), (3, x1), (4, .top), (8, a8), (19, .top)]) S
theorem e16_r0 (cf : CallF) (a0 : D) (a2 : D) (a3 : D) (a4 : D) (a8 : D) (a19 : D) (S : Store) (Q : Ex → List D → Store → Prop) : wp cf c16_r0 (mkf 34 [(0, a0), (2, a2), (3, a3), (4, a4), (8, a8), (19, a19)]) S Q = s16_r0 cf a0 a2 a3 a4 a8 a19 S Q := wpS_of (by kernel_rfl)
def s16_0 (cf : CallF) (a0 : D) (a2 : D) (a3 : D) (a4 : D) (a8 : D) (a19 : D) (S : Store) (Q : Ex → List D → Store → Prop) : Prop :=
  OX (binD .lss .num a4 a3) fun x2 =>
  WB x2
  (OX (iaD 2 a0 a4) fun x3 =>
  OX (ldD S 2 true x3) fun x4 =>
  OX (iaD 2 a0 a3) fun x5 =>
  OX (ldD S 2 true x5) fun x6 =>
  OX (binD .eql (.agg [.i, .i]) x4 x6) fun x7 =>
  WB x7
  (Q .ret (mkf 34 [(0, .top), (2, (.b false)), (3, .top), (4, .top), (8, a8), (19, .top)]) S)
  (OX (binD .add .num a4 (.i .i64 1)) fun x8 =>
  Q .normal (mkf 34 [(0, a0), (2, a2), (3, a3), (4, x8), (8, a8), (19, .top)]) S))
  (Q (.exit 2) (mkf 34 [(0, a0), (2, a2), (3, a3), (4, a4), (8, a8), (19, x2)]) S)
theorem e16_0 (cf : CallF) (a0 : D) (a2 : D) (a3 : D) (a4 : D) (a8 : D) (a19 : D) (S : Store) (Q : Ex → List D → Store → Prop) : wp cf c16_0 (fkill (mkf 34 [(0, a0), (2, a2), (3, a3), (4, a4), (8, a8), (19, a19)]) []) S Q = s16_0 cf a0 a2 a3 a4 a8 a19 S Q := wpS_of (by kernel_rfl)
def s16_r1 (cf : CallF) (a0 : D) (a2 : D) (a3 : D) (a4 : D) (a8 : D) (a19 : D) (S : Store) (Q : Ex → List D → Store → Prop) : Prop :=
  OX (lenD false a0) fun x9 =>
  OX (binD .leq .num x9 (.i .i64 4096)) fun x10 =>
  Q .ret (mkf 34 [(0, .top), (2, x10), (3, .top), (4, a4), (8, .top), (19, a19)]) S
theorem e16_r1 (cf : CallF) (a0 : D) (a2 : D) (a3 : D) (a4 : D) (a8 : D) (a19 : D) (S : Store) (Q : Ex → List D → Store → Prop) : wp cf c16_r1 (mkf 34 [(0, a0), (2, a2), (3, a3), (4, a4), (8, a8), (19, a19)]) S Q = s16_r1 cf a0 a2 a3 a4 a8 a19 S Q := wpS_of (by kernel_rfl)
def s16_1 (cf : CallF) (a0 : D) (a2 : D) (a3 : D) (a4 : D) (a8 : D) (a19 : D) (S : Store) (Q : Ex → List D → Store → Prop) : Prop :=
  OX (lenD false a0) fun x11 =>
  OX (binD .lss .num a3 x11) fun x12 =>
  WB x12
  (OX (iaD 2 a0 a3) fun x13 =>
  OX (ldD S 2 true x13) fun x14 =>
  OX (isoCall cf 51 [x14]) fun x15 =>
  OX (unD .not x15) fun x16 =>
  WB x16
  (Q .ret (mkf 34 [(0, .top), (2, (.b false)), (3, .top), (4, a4), (8, .top), (19, a19)]) S)
  (W cf (.loop [] c16_0) (mkf 34 [(0, a0), (2, a2), (3, a3), (4, (.i .i64 0)), (8, .top), (19, a19)]) S (Qblk 2 (Qblk 1 (QS cf c16_r0 Q)))))
  (Q (.exit 0) (mkf 34 [(0, a0), (2, a2), (3, a3), (4, a4), (8, x12), (19, a19)]) S)
theorem e16_1 (cf : CallF) (a0 : D) (a2 : D) (a3 : D) (a4 : D) (a8 : D) (a19 : D) (S : Store) (Q : Ex → List D → Store → Prop) : wp cf c16_1 (fkill (mkf 34 [(0, a0), (2, a2), (3, a3), (4, a4), (8, a8), (19, a19)]) []) S Q = s16_1 cf a0 a2 a3 a4 a8 a19 S Q := wpS_of (by kernel_rfl)
def s16 (cf : CallF) (a0 : D) (S : Store) (Post : D → Store → Prop) : Prop :=
  W cf (.loop [] c16_1) (mkf 34 [(0, a0), (2, .top), (3, (.i .i64 0)), (4, .top), (8, .top), (19, .top)]) S (Qblk 0 (QS cf c16_r1 (FinK [.t 2] Post)))
theorem e16 (cf : CallF) (a0 : D) (S : Store) (Post : D → Store → Prop) : wp cf c16 (frame0 d16 [a0]) S (FinK d16.res Post) = s16 cf a0 S Post := wpS_of (by kernel_rfl)
theorem i16 (a0 : D) (r : D) (ha : noRefL (stripL [a0]) = true) (hr : noRef r = true) (h : s16 (call dp) (strip a0) [] fun d _ => stripT d = r) : isoCall (call dp) 16 [a0] = some r := iso_s (f := d16) rfl ⟨rfl, by decide⟩ ha hr (by rw [← e16] at h; exact h)
theorem j16 (a0 : D) (Post : D → Prop) (ha : noRefL (stripL [a0]) = true) (hr : ∀ r, Post r → noRef r = true) (h : s16 (call dp) (strip a0) [] fun d _ => Post (stripT d)) : ∃ r, isoCall (call dp) 16 [a0] = some r ∧ Post r := iso_x (f := d16) rfl ⟨rfl, by decide⟩ ha hr (by rw [← e16] at h; exact h)
theorem f16 (a0 : D) (S : Store) (Post : D → Store → Prop) (h : s16 (call dp) a0 S Post) : ∃ r S', call dp 16 [a0] S = some (r, S') ∧ Post r S' := call_s (f := d16) rfl ⟨rfl, by decide⟩ (by rw [← e16] at h; exact h)

/-! lineage/lineageref11.Same -/
def s17_r0 (cf : CallF) (a2 : D) (a3 : D) (a4 : D) (a5 : D) (a32 : D) (S : Store) (Q : Ex → List D → Store → Prop) : Prop :=
  Q .ret (mkf 46 [(2, .top), (3, .top), (4, (.b true)), (5, .top), (32, .top)]) S
theorem e17_r0 (cf : CallF) (a2 : D) (a3 : D) (a4 : D) (a5 : D) (a32 : D) (S : Store) (Q : Ex → List D → Store → Prop) : wp cf c17_r0 (mkf 46 [(2, a2), (3, a3), (4, a4), (5, a5), (32, a32)]) S Q = s17_r0 cf a2 a3 a4 a5 a32 S Q := wpS_of (by kernel_rfl)
def s17_0 (cf : CallF) (a2 : D) (a3 : D) (a4 : D) (a5 : D) (a32 : D) (S : Store) (Q : Ex → List D → Store → Prop) : Prop :=
  OX (faD 1 a2) fun x1 =>
  OX (ldD S 1 false x1) fun x2 =>
  OX (lenD false x2) fun x3 =>
  OX (binD .lss .num a5 x3) fun x4 =>
  WB x4
  (OX (faD 1 a2) fun x5 =>
  OX (ldD S 1 false x5) fun x6 =>
  OX (iaD 3 x6 a5) fun x7 =>
  OX (ldD S 3 true x7) fun x8 =>
  OX (faD 1 a3) fun x9 =>
  OX (ldD S 1 false x9) fun x10 =>
  OX (iaD 3 x10 a5) fun x11 =>
  OX (ldD S 3 true x11) fun x12 =>
  OX (binD .neq (.agg [.i, .i, .i]) x8 x12) fun x13 =>
  WB x13
  (Q .ret (mkf 46 [(2, .top), (3, .top), (4, (.b false)), (5, .top), (32, .top)]) S)
  (OX (binD .add .num a5 (.i .i64 1)) fun x14 =>
  Q .normal (mkf 46 [(2, a2), (3, a3), (4, a4), (5, x14), (32, .top)]) S))
  (Q (.exit 0) (mkf 46 [(2, a2), (3, a3), (4, a4), (5, a5), (32, x4)]) S)
theorem e17_0 (cf : CallF) (a2 : D) (a3 : D) (a4 : D) (a5 : D) (a32 : D) (S : Store) (Q : Ex → List D → Store → Prop) : wp cf c17_0 (fkill (mkf 46 [(2, a2), (3, a3), (4, a4), (5, a5), (32, a32)]) []) S Q = s17_0 cf a2 a3 a4 a5 a32 S Q := wpS_of (by kernel_rfl)
def s17 (cf : CallF) (a0 : D) (a1 : D) (S : Store) (Post : D → Store → Prop) : Prop :=
  bxx 3 true a0 S fun x15 S16 =>
  bxx 3 true a1 S16 fun x17 S18 =>
  OX (faD 2 x15) fun x19 =>
  OX (ldD S18 1 false x19) fun x20 =>
  OX (faD 2 x17) fun x21 =>
  OX (ldD S18 1 false x21) fun x22 =>
  OX (binD .neq .num x20 x22) fun x23 =>
  OX (gsel x23 false (faD 0 x15)) fun x24 =>
  OX (gsel x23 false (ldD S18 1 false x24)) fun x25 =>
  OX (gsel x23 false (faD 0 x17)) fun x26 =>
  OX (gsel x23 false (ldD S18 1 false x26)) fun x27 =>
  OX (gsel x23 false (isoCall cf 52 [x25, x27])) fun x28 =>
  OX (gsel x23 false (unD .not x28)) fun x29 =>
  OX (pickD x23 (.b true) x29) fun x30 =>
  OX (gsel x30 false (faD 1 x15)) fun x31 =>
  OX (gsel x30 false (ldD S18 1 false x31)) fun x32 =>
  OX (gsel x30 false (lenD false x32)) fun x33 =>
  OX (gsel x30 false (faD 1 x17)) fun x34 =>
  OX (gsel x30 false (ldD S18 1 false x34)) fun x35 =>
  OX (gsel x30 false (lenD false x35)) fun x36 =>
  OX (gsel x30 false (binD .neq .num x33 x36)) fun x37 =>
  OX (pickD x30 (.b true) x37) fun x38 =>
  WB x38
  (Post (.b false) S18)
  (W cf (.loop [] c17_0) (mkf 46 [(2, x15), (3, x17), (4, .top), (5, (.i .i64 0)), (32, .top)]) S18 (Qblk 0 (QS cf c17_r0 (FinK [.t 4] Post))))
theorem e17 (cf : CallF) (a0 : D) (a1 : D) (S : Store) (Post : D → Store → Prop) : wp cf c17 (frame0 d17 [a0, a1]) S (FinK d17.res Post) = s17 cf a0 a1 S Post := wpS_of (by kernel_rfl)
theorem i17 (a0 : D) (a1 : D) (r : D) (ha : noRefL (stripL [a0, a1]) = true) (hr : noRef r = true) (h : s17 (call dp) (strip a0) (strip a1) [] fun d _ => stripT d = r) : isoCall (call dp) 17 [a0, a1] = some r := iso_s (f := d17) rfl ⟨rfl, by decide⟩ ha hr (by rw [← e17] at h; exact h)
theorem j17 (a0 : D) (a1 : D) (Post : D → Prop) (ha : noRefL (stripL [a0, a1]) = true) (hr : ∀ r, Post r → noRef r = true) (h : s17 (call dp) (strip a0) (strip a1) [] fun d _ => Post (stripT d)) : ∃ r, isoCall (call dp) 17 [a0, a1] = some r ∧ Post r := iso_x (f := d17) rfl ⟨rfl, by decide⟩ ha hr (by rw [← e17] at h; exact h)
theorem f17 (a0 : D) (a1 : D) (S : Store) (Post : D → Store → Prop) (h : s17 (call dp) a0 a1 S Post) : ∃ r S', call dp 17 [a0, a1] S = some (r, S') ∧ Post r S' := call_s (f := d17) rfl ⟨rfl, by decide⟩ (by rw [← e17] at h; exact h)

/-! lineage/lineageref11.SameOrder -/
def s52_r0 (cf : CallF) (a0 : D) (a1 : D) (a4 : D) (a5 : D) (a14 : D) (S : Store) (Q : Ex → List D → Store → Prop) : Prop :=
  Q .ret (mkf 26 [(0, .top), (1, .top), (4, (.b true)), (5, .top), (14, .top)]) S
theorem e52_r0 (cf : CallF) (a0 : D) (a1 : D) (a4 : D) (a5 : D) (a14 : D) (S : Store) (Q : Ex → List D → Store → Prop) : wp cf c52_r0 (mkf 26 [(0, a0), (1, a1), (4, a4), (5, a5), (14, a14)]) S Q = s52_r0 cf a0 a1 a4 a5 a14 S Q := wpS_of (by kernel_rfl)
def s52_0 (cf : CallF) (a0 : D) (a1 : D) (a4 : D) (a5 : D) (a14 : D) (S : Store) (Q : Ex → List D → Store → Prop) : Prop :=
  OX (lenD false a0) fun x1 =>
  OX (binD .lss .num a5 x1) fun x2 =>
  WB x2
  (OX (iaD 2 a0 a5) fun x3 =>
  OX (ldD S 2 true x3) fun x4 =>
  OX (iaD 2 a1 a5) fun x5 =>
  OX (ldD S 2 true x5) fun x6 =>
  OX (binD .neq (.agg [.i, .i]) x4 x6) fun x7 =>
  WB x7
  (Q .ret (mkf 26 [(0, .top), (1, .top), (4, (.b false)), (5, .top), (14, .top)]) S)
  (OX (binD .add .num a5 (.i .i64 1)) fun x8 =>
  Q .normal (mkf 26 [(0, a0), (1, a1), (4, a4), (5, x8), (14, .top)]) S))
  (Q (.exit 0) (mkf 26 [(0, a0), (1, a1), (4, a4), (5, a5), (14, x2)]) S)
theorem e52_0 (cf : CallF) (a0 : D) (a1 : D) (a4 : D) (a5 : D) (a14 : D) (S : Store) (Q : Ex → List D → Store → Prop) : wp cf c52_0 (fkill (mkf 26 [(0, a0), (1, a1), (4, a4), (5, a5), (14, a14)]) []) S Q = s52_0 cf a0 a1 a4 a5 a14 S Q := wpS_of (by kernel_rfl)
def s52 (cf : CallF) (a0 : D) (a1 : D) (S : Store) (Post : D → Store → Prop) : Prop :=
  OX (lenD false a0) fun x9 =>
  OX (lenD false a1) fun x10 =>
  OX (binD .neq .num x9 x10) fun x11 =>
  WB x11
  (Post (.b false) S)
  (W cf (.loop [] c52_0) (mkf 26 [(0, a0), (1, a1), (4, .top), (5, (.i .i64 0)), (14, .top)]) S (Qblk 0 (QS cf c52_r0 (FinK [.t 4] Post))))
theorem e52 (cf : CallF) (a0 : D) (a1 : D) (S : Store) (Post : D → Store → Prop) : wp cf c52 (frame0 d52 [a0, a1]) S (FinK d52.res Post) = s52 cf a0 a1 S Post := wpS_of (by kernel_rfl)
theorem i52 (a0 : D) (a1 : D) (r : D) (ha : noRefL (stripL [a0, a1]) = true) (hr : noRef r = true) (h : s52 (call dp) (strip a0) (strip a1) [] fun d _ => stripT d = r) : isoCall (call dp) 52 [a0, a1] = some r := iso_s (f := d52) rfl ⟨rfl, by decide⟩ ha hr (by rw [← e52] at h; exact h)
theorem j52 (a0 : D) (a1 : D) (Post : D → Prop) (ha : noRefL (stripL [a0, a1]) = true) (hr : ∀ r, Post r → noRef r = true) (h : s52 (call dp) (strip a0) (strip a1) [] fun d _ => Post (stripT d)) : ∃ r, isoCall (call dp) 52 [a0, a1] = some r ∧ Post r := iso_x (f := d52) rfl ⟨rfl, by decide⟩ ha hr (by rw [← e52] at h; exact h)
theorem f52 (a0 : D) (a1 : D) (S : Store) (Post : D → Store → Prop) (h : s52 (call dp) a0 a1 S Post) : ∃ r S', call dp 52 [a0, a1] S = some (r, S') ∧ Post r S' := call_s (f := d52) rfl ⟨rfl, by decide⟩ (by rw [← e52] at h; exact h)

/-! lineage/lineagelaw11.BddValid -/
def s5 (cf : CallF) (a0 : D) (a1 : D) (S : Store) (Post : D → Store → Prop) : Prop :=
  bxx 3 true a0 S fun x1 S2 =>
  bxx 3 true a1 S2 fun x3 S4 =>
  OX (isoCall cf 10 []) fun x5 =>
  OX (unD .not x5) fun x6 =>
  OX (gsel x6 false (ldD S4 3 true x1)) fun x7 =>
  OX (gsel x6 false (isoCall cf 11 [x7])) fun x8 =>
  OX (gsel x6 false (unD .not x8)) fun x9 =>
  OX (pickD x6 (.b true) x9) fun x10 =>
  OX (gsel x10 false (ldD S4 3 true x3)) fun x11 =>
  OX (gsel x10 false (isoCall cf 11 [x11])) fun x12 =>
  OX (gsel x10 false (unD .not x12)) fun x13 =>
  OX (pickD x10 (.b true) x13) fun x14 =>
  WB x14
  (OX (isoCall cf 10 []) fun x15 =>
  Post x15 S4)
  (OX (ldD S4 3 true x1) fun x16 =>
  OX (isoCall cf 24 [x16]) fun x17 =>
  OX (ldD S4 3 true x1) fun x18 =>
  OX (isoCall cf 33 [x18]) fun x19 =>
  OX (binD .eql .bool x19 x17) fun x20 =>
  OX (gsel x20 true (ldD S4 3 true x1)) fun x21 =>
  OX (gsel x20 true (ldD S4 3 true x1)) fun x22 =>
  OX (gsel x20 true (isoCall cf 34 [x21, x22])) fun x23 =>
  OX (gsel x20 true (some x17)) fun x24 =>
  OX (gsel x20 true (binD .eql .bool x23 x24)) fun x25 =>
  OX (pickD x20 x25 (.b false)) fun x26 =>
  OX (gsel x26 true (ldD S4 3 true x1)) fun x27 =>
  OX (gsel x26 true (ldD S4 3 true x3)) fun x28 =>
  OX (gsel x26 true (isoCall cf 34 [x27, x28])) fun x29 =>
  OX (gsel x26 true (some x17)) fun x30 =>
  OX (gsel x26 true (some x30)) fun x31 =>
  OX (gsel x31 true (ldD S4 3 true x1)) fun x32 =>
  OX (gsel x31 true (ldD S4 3 true x3)) fun x33 =>
  OX (gsel x31 true (isoCall cf 17 [x32, x33])) fun x34 =>
  OX (gsel x26 true (pickD x31 x34 (.b false))) fun x35 =>
  OX (gsel x26 true (binD .eql .bool x29 x35)) fun x36 =>
  OX (pickD x26 x36 (.b false)) fun x37 =>
  Post x37 S4)
theorem e5 (cf : CallF) (a0 : D) (a1 : D) (S : Store) (Post : D → Store → Prop) : wp cf c5 (frame0 d5 [a0, a1]) S (FinK d5.res Post) = s5 cf a0 a1 S Post := wpS_of (by kernel_rfl)
theorem i5 (a0 : D) (a1 : D) (r : D) (ha : noRefL (stripL [a0, a1]) = true) (hr : noRef r = true) (h : s5 (call dp) (strip a0) (strip a1) [] fun d _ => stripT d = r) : isoCall (call dp) 5 [a0, a1] = some r := iso_s (f := d5) rfl ⟨rfl, by decide⟩ ha hr (by rw [← e5] at h; exact h)
theorem j5 (a0 : D) (a1 : D) (Post : D → Prop) (ha : noRefL (stripL [a0, a1]) = true) (hr : ∀ r, Post r → noRef r = true) (h : s5 (call dp) (strip a0) (strip a1) [] fun d _ => Post (stripT d)) : ∃ r, isoCall (call dp) 5 [a0, a1] = some r ∧ Post r := iso_x (f := d5) rfl ⟨rfl, by decide⟩ ha hr (by rw [← e5] at h; exact h)
theorem f5 (a0 : D) (a1 : D) (S : Store) (Post : D → Store → Prop) (h : s5 (call dp) a0 a1 S Post) : ∃ r S', call dp 5 [a0, a1] S = some (r, S') ∧ Post r S' := call_s (f := d5) rfl ⟨rfl, by decide⟩ (by rw [← e5] at h; exact h)

end Go.Proofs.YtjlmeikcfdanmaaGreatDoor.DE
