/-
  WHAT THE FUNCTIONS ANSWER: the reference's operations on tables.
-/
import Derived.Test.YtjlmeikcfdanmaaGreatDoorVm
namespace Go.Proofs.YtjlmeikcfdanmaaGreatDoor.DE.V
open Go BT

theorem pow7 {n : Nat} (h : n ≤ 7) : 2 ^ n ≤ 128 := by
  have := Nat.pow_le_pow_right (show 0 < 2 by omega) h
  simpa using this

theorem v26 (nl : Bool) (n : Nat) (h7 : n ≤ 7) (f : (Nat → Bool) → Bool) : isoCall (call dp) 26 [eBools nl (tabOf n f)] = some (eBools false (tabOf n fun s => !f s)) := by
  have hp := pow7 h7
  apply i26 _ _ (by simp [noRefL]) (by simp)
  simp [s26]
  let F : Nat → Bool := fun x => !f (bitsA x)
  let J : Nat → List D → Store → Prop := fun q fr S => ∃ k a2 a9 m o, k + q = 2 ^ n ∧ LivC S m k o ∧
    fr = mkf 21 [(0, eBools nl (tabOf n f)), (2, a2), (3, .sl 1 m (((List.range k).map F).map fun b => [.b b]) o), (4, .i .i64 k), (9, a9)]
  refine W_loop J ?_ (2 ^ n) _ _ ⟨0, _, _, false, .cap0, by simp, .inr ⟨rfl, rfl, rfl⟩, rfl⟩
  rintro q fr S ⟨k, a2, a9, m, o, hk, hl, rfl⟩
  rw [← wp_W, e26_0]
  by_cases h : k < 2 ^ n
  · obtain ⟨t, S', e, a, b⟩ := app_bools (n' := false) (o' := .ro) F k hl (by omega)
    change appD 1 false (.sl 1 m (((List.range k).map F).map fun b => [.b b]) o) (.sl 1 false [[.b (!f (bitsA k))]] .ro) S = _ at e
    have h' : (k : Int) < ((tabOf n f).length : Int) := by rw [tabOf_len]; omega
    simp [-OX_b, -List.map_map, s26_0, h', ia_bools (tabOf_get f h), e, wrapS (show Bd k by unfold Bd; omega)]
    exact ⟨q - 1, by omega, k + 1, _, _, false, .tok t, by omega, .tok a, rfl⟩
  · have hk' : k = 2 ^ n := by omega
    have h' : ¬ (k : Int) < ((tabOf n f).length : Int) := by rw [tabOf_len]; omega
    simp [-List.map_map, s26_0, h', e26_r0, s26_r0]
    rw [hk'] at hl ⊢
    rw [hl.false (Nat.two_pow_pos _)]
    rfl

theorem v28 (nl nl' : Bool) (n : Nat) (h7 : n ≤ 7) (f g : (Nat → Bool) → Bool) : isoCall (call dp) 28 [eBools nl (tabOf n f), eBools nl' (tabOf n g)] = some (eBools false (tabOf n fun s => f s && g s)) := by
  have hp := pow7 h7
  apply i28 _ _ _ (by simp [noRefL]) (by simp)
  simp [s28]
  let F : Nat → Bool := fun x => f (bitsA x) && g (bitsA x)
  let J : Nat → List D → Store → Prop := fun q fr S => ∃ k a4 a11 m o, k + q = 2 ^ n ∧ LivC S m k o ∧
    fr = mkf 28 [(0, eBools nl (tabOf n f)), (1, eBools nl' (tabOf n g)), (4, a4), (5, .sl 1 m (((List.range k).map F).map fun b => [.b b]) o), (6, .i .i64 k), (11, a11)]
  refine W_loop J ?_ (2 ^ n) _ _ ⟨0, _, _, false, .cap0, by simp, .inr ⟨rfl, rfl, rfl⟩, rfl⟩
  rintro q fr S ⟨k, a4, a11, m, o, hk, hl, rfl⟩
  rw [← wp_W, e28_0]
  by_cases h : k < 2 ^ n
  · obtain ⟨t, S', e, a, b⟩ := app_bools (n' := false) (o' := .ro) F k hl (by omega)
    change appD 1 false (.sl 1 m (((List.range k).map F).map fun b => [.b b]) o) (.sl 1 false [[.b (f (bitsA k) && g (bitsA k))]] .ro) S = _ at e
    have h' : (k : Int) < ((tabOf n f).length : Int) := by rw [tabOf_len]; omega
    have fin : ∃ m', m' < q ∧ J m' (mkf 28 [(0, eBools nl (tabOf n f)), (1, eBools nl' (tabOf n g)), (4, a4), (5, .sl 1 false (((List.range (k + 1)).map F).map fun b => [.b b]) (.tok t)), (6, .i .i64 ((k + 1 : Nat) : Int)), (11, .top)]) S' :=
      ⟨q - 1, by omega, k + 1, _, _, false, .tok t, by omega, .tok a, rfl⟩
    cases hf : f (bitsA k) with
    | true =>
      simp only [hf, Bool.true_and] at e
      simp [-OX_b, -List.map_map, s28_0, h', ia_bools (tabOf_get f h), ia_bools (tabOf_get g h), hf, e, wrapS (show Bd k by unfold Bd; omega)]
      simpa [-List.map_map] using fin
    | false =>
      simp only [hf, Bool.false_and] at e
      simp [-OX_b, -List.map_map, s28_0, h', ia_bools (tabOf_get f h), hf, e, wrapS (show Bd k by unfold Bd; omega)]
      simpa [-List.map_map] using fin
  · have hk' : k = 2 ^ n := by omega
    have h' : ¬ (k : Int) < ((tabOf n f).length : Int) := by rw [tabOf_len]; omega
    simp [-List.map_map, s28_0, h', e28_r0, s28_r0]
    rw [hk'] at hl ⊢
    rw [hl.false (Nat.two_pow_pos _)]
    rfl

theorem v29 (nl nl' : Bool) (n : Nat) (h7 : n ≤ 7) (f g : (Nat → Bool) → Bool) : isoCall (call dp) 29 [eBools nl (tabOf n f), eBools nl' (tabOf n g)] = some (eBools false (tabOf n fun s => f s || g s)) := by
  have hp := pow7 h7
  apply i29 _ _ _ (by simp [noRefL]) (by simp)
  simp [s29]
  let F : Nat → Bool := fun x => f (bitsA x) || g (bitsA x)
  let J : Nat → List D → Store → Prop := fun q fr S => ∃ k a4 a11 m o, k + q = 2 ^ n ∧ LivC S m k o ∧
    fr = mkf 28 [(0, eBools nl (tabOf n f)), (1, eBools nl' (tabOf n g)), (4, a4), (5, .sl 1 m (((List.range k).map F).map fun b => [.b b]) o), (6, .i .i64 k), (11, a11)]
  refine W_loop J ?_ (2 ^ n) _ _ ⟨0, _, _, false, .cap0, by simp, .inr ⟨rfl, rfl, rfl⟩, rfl⟩
  rintro q fr S ⟨k, a4, a11, m, o, hk, hl, rfl⟩
  rw [← wp_W, e29_0]
  by_cases h : k < 2 ^ n
  · obtain ⟨t, S', e, a, b⟩ := app_bools (n' := false) (o' := .ro) F k hl (by omega)
    change appD 1 false (.sl 1 m (((List.range k).map F).map fun b => [.b b]) o) (.sl 1 false [[.b (f (bitsA k) || g (bitsA k))]] .ro) S = _ at e
    have h' : (k : Int) < ((tabOf n f).length : Int) := by rw [tabOf_len]; omega
    have fin : ∃ m', m' < q ∧ J m' (mkf 28 [(0, eBools nl (tabOf n f)), (1, eBools nl' (tabOf n g)), (4, a4), (5, .sl 1 false (((List.range (k + 1)).map F).map fun b => [.b b]) (.tok t)), (6, .i .i64 ((k + 1 : Nat) : Int)), (11, .top)]) S' :=
      ⟨q - 1, by omega, k + 1, _, _, false, .tok t, by omega, .tok a, rfl⟩
    cases hf : f (bitsA k) with
    | true =>
      simp only [hf, Bool.true_or] at e
      simp [-OX_b, -List.map_map, s29_0, h', ia_bools (tabOf_get f h), hf, e, wrapS (show Bd k by unfold Bd; omega)]
      simpa [-List.map_map] using fin
    | false =>
      simp only [hf, Bool.false_or] at e
      simp [-OX_b, -List.map_map, s29_0, h', ia_bools (tabOf_get f h), ia_bools (tabOf_get g h), hf, e, wrapS (show Bd k by unfold Bd; omega)]
      simpa [-List.map_map] using fin
  · have hk' : k = 2 ^ n := by omega
    have h' : ¬ (k : Int) < ((tabOf n f).length : Int) := by rw [tabOf_len]; omega
    simp [-List.map_map, s29_0, h', e29_r0, s29_r0]
    rw [hk'] at hl ⊢
    rw [hl.false (Nat.two_pow_pos _)]
    rfl

theorem v19 (n : Nat) (h7 : n ≤ 7) (c : Bool) : isoCall (call dp) 19 [.i .i64 n, .b c] = some (eBools false (tabOf n fun _ => c)) := by
  have hp := pow7 h7
  apply i19 _ _ _ (by simp [noRefL]) (by simp)
  simp [s19]
  let F : Nat → Bool := fun _ => c
  let J : Nat → List D → Store → Prop := fun q fr S => ∃ k a4 a11 m o, k + q = 2 ^ n ∧ LivC S m k o ∧
    fr = mkf 19 [(0, .i .i64 n), (1, .b c), (4, a4), (5, .sl 1 m (((List.range k).map F).map fun b => [.b b]) o), (6, .i .i64 k), (11, a11)]
  refine W_loop J ?_ (2 ^ n) _ _ ⟨0, _, _, false, .cap0, by simp, .inr ⟨rfl, rfl, rfl⟩, rfl⟩
  rintro q fr S ⟨k, a4, a11, m, o, hk, hl, rfl⟩
  rw [← wp_W, e19_0]
  have hsh := shl1 (n := n) (by omega)
  by_cases h : k < 2 ^ n
  · obtain ⟨t, S', e, a, b⟩ := app_bools (n' := false) (o' := .ro) F k hl (by omega)
    have h' : (k : Int) < ((2 ^ n : Nat) : Int) := by omega
    have fin : ∃ m', m' < q ∧ J m' (mkf 19 [(0, .i .i64 n), (1, .b c), (4, a4), (5, .sl 1 false (((List.range (k + 1)).map F).map fun b => [.b b]) (.tok t)), (6, .i .i64 ((k + 1 : Nat) : Int)), (11, .top)]) S' :=
      ⟨q - 1, by omega, k + 1, _, _, false, .tok t, by omega, .tok a, rfl⟩
    simp only [s19_0, hsh, OX_some, bin_lss, h', decide_true, WB_true, cellsV_b, OX_b, if_true]
    rw [show [[D.b c]] = [[D.b (F k)]] from rfl, e]
    simp only [OX_some, bin_add, wrapS (show Bd k by unfold Bd; omega), Qseq_normal]
    exact fin
  · have hk' : k = 2 ^ n := by omega
    have h' : ¬ (k : Int) < ((2 ^ n : Nat) : Int) := by omega
    simp [-List.map_map, -Int.natCast_pow, s19_0, hsh, h', e19_r0, s19_r0]
    rw [hk'] at hl ⊢
    rw [hl.false (Nat.two_pow_pos _)]
    rfl

theorem v20 (n v : Nat) (h7 : n ≤ 7) (hv : v ≤ 60) : isoCall (call dp) 20 [.i .i64 n, .i .i64 v] = some (eBools false (tabOf n fun s => s v)) := by
  have hp := pow7 h7
  apply i20 _ _ _ (by simp [noRefL, noRef]) (by simp)
  simp [s20]
  let F : Nat → Bool := fun x => bitsA x v
  let J : Nat → List D → Store → Prop := fun q fr S => ∃ k a4 a11 m o, k + q = 2 ^ n ∧ LivC S m k o ∧
    fr = mkf 23 [(0, .i .i64 n), (1, .i .i64 v), (4, a4), (5, .sl 1 m (((List.range k).map F).map fun b => [.b b]) o), (6, .i .i64 k), (11, a11)]
  refine W_loop J ?_ (2 ^ n) _ _ ⟨0, _, _, false, .cap0, by simp, .inr ⟨rfl, rfl, rfl⟩, rfl⟩
  rintro q fr S ⟨k, a4, a11, m, o, hk, hl, rfl⟩
  rw [← wp_W, e20_0]
  have hsh := shl1 (n := n) (by omega)
  by_cases h : k < 2 ^ n
  · obtain ⟨t, S', e, a, b⟩ := app_bools (n' := false) (o' := .ro) F k hl (by omega)
    have h' : (k : Int) < ((2 ^ n : Nat) : Int) := by omega
    have fin : ∃ m', m' < q ∧ J m' (mkf 23 [(0, .i .i64 n), (1, .i .i64 v), (4, a4), (5, .sl 1 false (((List.range (k + 1)).map F).map fun b => [.b b]) (.tok t)), (6, .i .i64 ((k + 1 : Nat) : Int)), (11, .top)]) S' :=
      ⟨q - 1, by omega, k + 1, _, _, false, .tok t, by omega, .tok a, rfl⟩
    have hbit : decide (((k / 2 ^ v % 2 : Nat) : Int) = 1) = F k := by
      simp only [F, bitsA]
      rw [Nat.testBit_eq_decide_div_mod_eq, decide_eq_decide]
      omega
    have hrem := remN (a := k / 2 ^ v) (b := 2) (by omega)
    rw [show ((2 : Nat) : Int) = 2 from rfl] at hrem
    simp only [s20_0, hsh, OX_some, bin_lss, h', decide_true, WB_true, OX_b, if_true, shrN (a := k) hv, hrem, bin_eql, hbit, cellsV_b]
    rw [e]
    simp only [OX_some, bin_add, wrapS (show Bd k by unfold Bd; omega), Qseq_normal]
    exact fin
  · have hk' : k = 2 ^ n := by omega
    have h' : ¬ (k : Int) < ((2 ^ n : Nat) : Int) := by omega
    simp [-List.map_map, -Int.natCast_pow, s20_0, hsh, h', e20_r0, s20_r0]
    rw [hk'] at hl ⊢
    rw [hl.false (Nat.two_pow_pos _)]
    rfl

end Go.Proofs.YtjlmeikcfdanmaaGreatDoor.DE.V
