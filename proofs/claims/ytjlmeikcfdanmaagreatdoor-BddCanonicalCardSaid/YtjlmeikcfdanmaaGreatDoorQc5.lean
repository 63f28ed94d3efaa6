/-
  SEVERAL TEXTS IN ONE (joined by tools/assemble.py of this repository): Ad, Ae, Af, Ag, Ah, Sj, Ai, Rx, Pc, Pd, Pe, Pf, Pg, Ph, Pi, Pj, Vb, Vc, Vd, Ve, Sb.
-/
import Derived.Test.YtjlmeikcfdanmaaGreatDoorQc4
import Derived.KernelRfl
set_option linter.unusedVariables false
set_option linter.unusedSimpArgs false
namespace Go.Proofs.YtjlmeikcfdanmaaGreatDoor.DE.V
open Go BT
set_option linter.unusedSimpArgs false

/-- Annotations of this depth are compared. -/
def Cmps {α : Type} (e : α → D) (ok : α → Prop) (c : α → α → Int) : Prop := ∀ a b, ok a → isoCall (call dp) 146 [e a, e b] = some (.i .i64 (c a b))

section
variable {α : Type} {e : α → D} {ok : α → Prop} {c : α → α → Int}

theorem noRef_agAt (h : GE e) (f : Fc α) : noRef (.agg (eAt e f)) = true := noRefL_eAt h f
theorem noRef_agFc (h : GE e) (f : Fc α) : noRef (.agg (eFc e f)) = true := noRefL_eFc h f
theorem noRef_agTm (h : GE e) (f : Tm α) : noRef (.agg (eTm e f)) = true := noRefL_eTm h f
theorem noRef_agIt (h : GE e) (f : Vl × α) : noRef (.agg (eIt e f)) = true := noRefL_eIt h f

theorem v148 (he : GE e) (H : Cmps e ok c) (p q : Vl × α) (h : ok p.2) : isoCall (call dp) 148 [.agg (eIt e p), .agg (eIt e q)] = some (.i .i64 (cmpIt c p q)) := by
  apply i148 _ _ _ (by simp [noRefL, noRef_agIt he, strip_agIt e he]) rfl
  have h1 := v143g [cmpVl p.1 q.1, c p.2 q.2] (by simp [Bd])
  simp only [List.map_cons, List.map_nil] at h1
  simp [s148, strip_agIt e he, cellsK_it e he, v149, H _ _ h, cellsV, h1, cmpIt]

theorem v99 (he : GE e) (H : Cmps e ok c) (f g : Fc α) (h : OkFc ok f) : isoCall (call dp) 99 [.agg (eAt e f), .agg (eAt e g)] = some (.i .i64 (cmpAt c f g)) := by
  apply i99 _ _ _ (by simp [noRefL, noRef_agAt he]) rfl
  have h1 := v143g [cmpI f.kind g.kind, cmpI f.row.1 g.row.1, cmpI f.row.2 g.row.2, cmpL c f.args g.args, cmpI f.fn g.fn, cmpL (cmpIt c) f.items g.items, cmpI f.op g.op, cmpVl f.bound g.bound] (by simp [Bd])
  simp only [List.map_cons, List.map_nil] at h1
  have h2 := v145 he c f.anl g.anl f.args g.args h.alen fun x hx y _ => H x y (h.args x hx)
  have h3 := v147 he (cmpIt c) f.inl g.inl f.items g.items h.ilen fun x hx y _ => v148 he H x y (h.items x hx).2
  simp [s99, v144, v149, h2, h3, cellsV, h1, cmpAt]

theorem v142 (he : GE e) (H : Cmps e ok c) (f g : Fc α) (h : OkFc ok f) : isoCall (call dp) 142 [.agg (eFc e f), .agg (eFc e g)] = some (.i .i64 (cmpFc c f g)) := by
  apply i142 _ _ _ (by simp [noRefL, noRef_agFc he]) rfl
  have h1 := v143g [cmpAt c f g, cmpI f.exp g.exp] (by simp [Bd])
  simp only [List.map_cons, List.map_nil] at h1
  simp [s142, v144, v99 he H f g h, cellsV, h1, cmpFc]

theorem v97 (he : GE e) (H : Cmps e ok c) (s t : Tm α) (h : OkTm ok s) : isoCall (call dp) 97 [.agg (eTm e s), .agg (eTm e t)] = some (.i .i64 (cmpTl c s t)) := by
  apply i97 _ _ _ (by simp [noRefL, noRef_agTm he]) rfl
  have h2 := v141 he (cmpFc c) s.nl t.nl s.fs t.fs h.len fun x hx y _ => v142 he H x y (h.fs x hx)
  simp [s97, h2, cmpTl]

theorem v189 (he : GE e) (H : Cmps e ok c) (s t : Tm α) (h : OkTm ok s) : isoCall (call dp) 189 [.agg (eTm e s), .agg (eTm e t)] = some (.i .i64 (cmpTm c s t)) := by
  apply i189 _ _ _ (by simp [noRefL, noRef_agTm he]) rfl
  have h1 := v143g [cmpTl c s t, cmpI s.c t.c] (by simp [Bd])
  simp only [List.map_cons, List.map_nil] at h1
  simp [s189, v190, v97 he H s t h, cellsV, h1, cmpTm]

theorem v146s (he : GE e) (H : Cmps e ok c) : Cmps (eAn e) (OkAn ok) (cmpAn c) := by
  intro x y h
  apply i146 _ _ _ (by simp [noRefL, noRef_eAn he]) rfl
  have h2 := v188 he (cmpTm c) x.nl y.nl x.ts y.ts h.len fun s hs t _ => v189 he H s t (h.ts s hs)
  simp only [s146, strip_eAn]
  simp only [eAn, h2, OX_some, stripT_i, cmpAn]
end

theorem v146 : ∀ n, Cmps (eAnn n) (OkAnn n) (cmpAnn n)
  | 0 => fun x => nomatch x
  | n + 1 => v146s (GE_eAnn n) (v146 n)

theorem v151 (n : Nat) (x y : Ann n) (h : OkAnn n x) : isoCall (call dp) 151 [eAnn n x, eAnn n y] = some (.b (decide (cmpAnn n x y = 0))) := by
  apply i151 _ _ _ (by simp [noRefL, (GE_eAnn n).noRef, (GE_eAnn n).strip]) rfl
  simp [-OX_b, s151, (GE_eAnn n).strip, v146 n x y h]

end Go.Proofs.YtjlmeikcfdanmaaGreatDoor.DE.V

namespace Go.Proofs.YtjlmeikcfdanmaaGreatDoor.DE.V
open Go BT
set_option linter.unusedSimpArgs false
set_option linter.unusedVariables false

/-- The sum, the greatest, of the first k. -/
def sumT {α : Type} (f : α → Nat) (l : List α) (k : Nat) : Nat := (List.map f (l.take k)).sum
theorem sumT_succ {α : Type} (f : α → Nat) {l : List α} {k : Nat} {x : α} (h : l[k]? = some x) : sumT f l (k + 1) = sumT f l k + f x := sum_take f h
theorem sumT_all {α : Type} (f : α → Nat) {l : List α} {k : Nat} (h : l.length ≤ k) : sumT f l k = (l.map f).sum := by rw [sumT, List.take_of_length_le h]
section
variable {α : Type} (s d : α → Nat)
end
theorem sum_one {α : Type} (f : α → Nat) : ∀ l : List α, (l.map fun x => 1 + f x).sum = l.length + (l.map f).sum
  | [] => rfl
  | x :: l => by have := sum_one f l; simp only [List.map_cons, List.sum_cons, List.length_cons]; omega

section
variable {α : Type} {s w d : α → Nat}
end
/-! The parts of what weighs little weigh little. -/
section
variable {α : Type} {w : α → Nat} {b : Nat}
end

theorem wrapN {n : Nat} (h : Bd n) : IntKind.wrap .i64 (n : Int) = n := wrap64 ⟨by omega, by unfold Bd at h; omega⟩
theorem wrapA {a b : Nat} (h : Bd (a + b)) : IntKind.wrap .i64 ((a : Int) + b) = ((a + b : Nat) : Int) := by
  rw [wrap64 ⟨by omega, by unfold Bd at h; omega⟩]; omega

section
variable {α : Type} {w d : α → Nat}
end
/-- The call ends with a number. -/
def EndI {α : Type} (g : Nat) (e : α → D) (ok : α → Prop) : Prop := ∀ a, ok a → ∃ z : Int, isoCall (call dp) g [e a] = some (.i .i64 z)
theorem mx_int (k : IntKind) (a b : Int) : mxD (.i k a) (.i k b) = some (.i k (if b > a then b else a)) := by simp [mxD]

set_option maxHeartbeats 1000000 in
theorem v136t_s {α : Type} {e : α → D} {ok : α → Prop} (he : GE e) (H : EndI 136 e ok) : EndI 136 (eAn e) (OkAn ok) := by
  intro x hx
  suffices hh : ∃ d, isoCall (call dp) 136 [eAn e x] = some d ∧ ∃ z : Int, d = .i .i64 z by
    obtain ⟨d, h1, z, rfl⟩ := hh
    exact ⟨z, h1⟩
  apply j136 _ _ (by simp [noRefL, noRef_eAn he]) (by rintro d ⟨z, rfl⟩; rfl)
  simp [s136]
  let J : Nat → List D → Store → Prop := fun q fr S => ∃ k m b2 b7 b15 b25 b26 b27 b28 b33 b34 b35 b36 b46 b47 b48 b49, fr = mkf 62 [(2, b2), (3, .i .i64 (m : Int)), (7, b7), (12, eAn e x), (13, .i .i64 x.ts.length), (14, .i .i64 (k : Nat)), (15, b15), (25, b25), (26, b26), (27, b27), (28, b28), (33, b33), (34, b34), (35, b35), (36, b36), (46, b46), (47, b47), (48, b48), (49, b49)] ∧ k + q = x.ts.length
  refine W_loop J ?_ x.ts.length _ _ ⟨0, _, _, _, _, _, _, _, _, _, _, _, _, _, _, _, _, rfl, by simp⟩
  intro q fr S hJ; obtain ⟨k, m, b2, b7, b15, b25, b26, b27, b28, b33, b34, b35, b36, b46, b47, b48, b49, hfr, hk⟩ := hJ; rw [hfr]
  rw [← wp_W, e136_3]
  simp [s136_3]
  split
  · rename_i h
    obtain ⟨t, ht⟩ := get_lt (l := x.ts) (k := k) (by omega)
    have hot := hx.ts t (List.mem_of_getElem? ht)
    simp [iaD_eAn e _ ht]
    let J2 : Nat → List D → Store → Prop := fun q fr S => ∃ i m2 b2 b7 b15 b28 b33 b34 b35 b36 b46 b47 b48 b49, fr = mkf 62 [(2, b2), (3, .i .i64 (m2 : Int)), (7, b7), (12, eAn e x), (13, .i .i64 x.ts.length), (14, .i .i64 (k : Nat)), (15, b15), (25, eFcs e t.nl t.fs), (26, .i .i64 t.fs.length), (27, .i .i64 (i : Nat)), (28, b28), (33, b33), (34, b34), (35, b35), (36, b36), (46, b46), (47, b47), (48, b48), (49, b49)] ∧ i + q = t.fs.length
    refine W_loop J2 ?_ t.fs.length _ _ ⟨0, _, _, _, _, _, _, _, _, _, _, _, _, _, rfl, by simp⟩
    intro q2 fr S hJ; obtain ⟨i, m2, b2, b7, b15, b28, b33, b34, b35, b36, b46, b47, b48, b49, hfr, hi⟩ := hJ; rw [hfr]
    rw [← wp_W, e136_2]
    simp [s136_2]
    split
    · rename_i h2
      obtain ⟨f, hf⟩ := get_lt (l := t.fs) (k := i) (by omega)
      have hof := hot.fs f (List.mem_of_getElem? hf)
      simp [iaD_eFcs e _ hf]
      obtain ⟨id, hid⟩ : ∃ id, id = S.length := ⟨_, rfl⟩
      rw [← hid]
      let J3 : Nat → List D → Store → Prop := fun q fr S => ∃ j m3 b2 b15 b28 b36 b46 b47 b48 b49, fr = mkf 62 [(2, b2), (3, .i .i64 (m3 : Int)), (7, .bx id 0), (12, eAn e x), (13, .i .i64 x.ts.length), (14, .i .i64 (k : Nat)), (15, b15), (25, eFcs e t.nl t.fs), (26, .i .i64 t.fs.length), (27, .i .i64 (i : Nat)), (28, b28), (33, eArgs e f.anl f.args), (34, .i .i64 f.args.length), (35, .i .i64 (j : Nat)), (36, b36), (46, b46), (47, b47), (48, b48), (49, b49)] ∧ j + q = f.args.length ∧ sget S id = some (.box (eFc e f))
      refine W_loop J3 ?_ f.args.length _ _ ⟨0, _, _, _, _, _, _, _, _, _, rfl, by simp, by simp [hid]⟩
      intro q3 fr S hJ; obtain ⟨j, m3, b2, b15, b28, b36, b46, b47, b48, b49, hfr, hj, hS⟩ := hJ; rw [hfr]
      rw [← wp_W, e136_1]
      simp [s136_1]
      split
      · rename_i h3
        obtain ⟨a, ha⟩ := get_lt (l := f.args) (k := j) (by omega)
        obtain ⟨z, hc⟩ := H a (hof.args a (List.mem_of_getElem? ha))
        simp [iaD_eArgs e _ ha, hc]
        rw [wrapL (k := j) h3 hof.alen]
        exact ⟨q3 - 1, by omega, ⟨j + 1, _, _, _, _, _, _, _, _, _, rfl, by omega, hS⟩⟩
      · simp [e136_r0, s136_r0, hS]
        let J4 : Nat → List D → Store → Prop := fun q fr S => ∃ j m4 b2 b7 b15 b28 b33 b34 b35 b36 b49, fr = mkf 62 [(2, b2), (3, .i .i64 (m4 : Int)), (7, b7), (12, eAn e x), (13, .i .i64 x.ts.length), (14, .i .i64 (k : Nat)), (15, b15), (25, eFcs e t.nl t.fs), (26, .i .i64 t.fs.length), (27, .i .i64 (i : Nat)), (28, b28), (33, b33), (34, b34), (35, b35), (36, b36), (46, eItems e f.inl f.items), (47, .i .i64 f.items.length), (48, .i .i64 (j : Nat)), (49, b49)] ∧ j + q = f.items.length
        refine W_loop J4 ?_ f.items.length _ _ ⟨0, _, _, _, _, _, _, _, _, _, _, rfl, by simp⟩
        intro q4 fr S hJ; obtain ⟨j, m4, b2, b7, b15, b28, b33, b34, b35, b36, b49, hfr, hj⟩ := hJ; rw [hfr]
        rw [← wp_W, e136_0]
        simp [s136_0]
        split
        · rename_i h4
          obtain ⟨p, hp⟩ := get_lt (l := f.items) (k := j) (by omega)
          obtain ⟨z, hc⟩ := H p.2 (hof.items p (List.mem_of_getElem? hp)).2
          simp [iaD_eItems e _ hp, cellsK_it e he, hc]
          rw [wrapL (k := j) h4 hof.ilen]
          exact ⟨q4 - 1, by omega, ⟨j + 1, _, _, _, _, _, _, _, _, _, _, rfl, by omega⟩⟩
        · simp [e136_r1, s136_r1]
          rw [wrapL (k := i) h2 hot.len]
          exact ⟨q2 - 1, by omega, ⟨i + 1, _, _, _, _, _, _, _, _, _, _, _, _, _, rfl, by omega⟩⟩
    · simp [e136_r2, s136_r2]
      rw [wrapL (k := k) h hx.len]
      exact ⟨q - 1, by omega, ⟨k + 1, _, _, _, _, _, _, _, _, _, _, _, _, _, _, _, _, rfl, by omega⟩⟩
  · simp [e136_r3, s136_r3]

theorem v136t : ∀ n, EndI 136 (eAnn n) (OkAnn n)
  | 0 => fun x => nomatch x
  | n + 1 => v136t_s (GE_eAnn n) (v136t n)

set_option maxHeartbeats 1000000 in
theorem v135t_s {α : Type} {e : α → D} {ok : α → Prop} (he : GE e) (H : EndI 135 e ok) : EndI 135 (eAn e) (OkAn ok) := by
  intro x hx
  suffices hh : ∃ d, isoCall (call dp) 135 [eAn e x] = some d ∧ ∃ z : Int, d = .i .i64 z by
    obtain ⟨d, h1, z, rfl⟩ := hh
    exact ⟨z, h1⟩
  apply j135 _ _ (by simp [noRefL, noRef_eAn he]) (by rintro d ⟨z, rfl⟩; rfl)
  simp [s135]
  let J : Nat → List D → Store → Prop := fun q fr S => ∃ k m b2 b7 b8 b16 b20 b21 b22 b23 b29 b32 b33 b34 b35 b45 b46 b47 b48, fr = mkf 64 [(2, b2), (3, .i .i64 (m : Int)), (7, b7), (8, b8), (13, eAn e x), (14, .i .i64 x.ts.length), (15, .i .i64 (k : Nat)), (16, b16), (20, b20), (21, b21), (22, b22), (23, b23), (29, b29), (32, b32), (33, b33), (34, b34), (35, b35), (45, b45), (46, b46), (47, b47), (48, b48)] ∧ k + q = x.ts.length
  refine W_loop J ?_ x.ts.length _ _ ⟨0, _, _, _, _, _, _, _, _, _, _, _, _, _, _, _, _, _, _, rfl, by simp⟩
  intro q fr S hJ; obtain ⟨k, m, b2, b7, b8, b16, b20, b21, b22, b23, b29, b32, b33, b34, b35, b45, b46, b47, b48, hfr, hk⟩ := hJ; rw [hfr]
  rw [← wp_W, e135_3]
  simp [s135_3]
  split
  · rename_i h
    obtain ⟨t, ht⟩ := get_lt (l := x.ts) (k := k) (by omega)
    have hot := hx.ts t (List.mem_of_getElem? ht)
    simp [iaD_eAn e _ ht]
    let J2 : Nat → List D → Store → Prop := fun q fr S => ∃ i m2 b2 b7 b8 b16 b23 b29 b32 b33 b34 b35 b45 b46 b47 b48, fr = mkf 64 [(2, b2), (3, .i .i64 (m2 : Int)), (7, b7), (8, b8), (13, eAn e x), (14, .i .i64 x.ts.length), (15, .i .i64 (k : Nat)), (16, b16), (20, eFcs e t.nl t.fs), (21, .i .i64 t.fs.length), (22, .i .i64 (i : Nat)), (23, b23), (29, b29), (32, b32), (33, b33), (34, b34), (35, b35), (45, b45), (46, b46), (47, b47), (48, b48)] ∧ i + q = t.fs.length
    refine W_loop J2 ?_ t.fs.length _ _ ⟨0, _, _, _, _, _, _, _, _, _, _, _, _, _, _, _, rfl, by simp⟩
    intro q2 fr S hJ; obtain ⟨i, m2, b2, b7, b8, b16, b23, b29, b32, b33, b34, b35, b45, b46, b47, b48, hfr, hi⟩ := hJ; rw [hfr]
    rw [← wp_W, e135_2]
    simp [s135_2]
    split
    · rename_i h2
      obtain ⟨f, hf⟩ := get_lt (l := t.fs) (k := i) (by omega)
      have hof := hot.fs f (List.mem_of_getElem? hf)
      simp [iaD_eFcs e _ hf]
      obtain ⟨id, hid⟩ : ∃ id, id = S.length := ⟨_, rfl⟩
      rw [← hid]
      split
      · simp [s135_r2]
        rw [wrapL (k := i) h2 hot.len]
        exact ⟨q2 - 1, by omega, ⟨i + 1, _, _, _, _, _, _, _, _, _, _, _, _, _, _, _, rfl, by omega⟩⟩
      · let J3 : Nat → List D → Store → Prop := fun q fr S => ∃ j m3 b2 b16 b23 b29 b35 b45 b46 b47 b48, fr = mkf 64 [(2, b2), (3, .i .i64 (m2 : Int)), (7, .bx id 0), (8, .i .i64 (m3 : Int)), (13, eAn e x), (14, .i .i64 x.ts.length), (15, .i .i64 (k : Nat)), (16, b16), (20, eFcs e t.nl t.fs), (21, .i .i64 t.fs.length), (22, .i .i64 (i : Nat)), (23, b23), (29, b29), (32, eArgs e f.anl f.args), (33, .i .i64 f.args.length), (34, .i .i64 (j : Nat)), (35, b35), (45, b45), (46, b46), (47, b47), (48, b48)] ∧ j + q = f.args.length ∧ sget S id = some (.box (eFc e f))
        refine W_loop J3 ?_ f.args.length _ _ ⟨0, _, _, _, _, _, _, _, _, _, _, rfl, by simp, by simp [hid]⟩
        intro q3 fr S hJ; obtain ⟨j, m3, b2, b16, b23, b29, b35, b45, b46, b47, b48, hfr, hj, hS⟩ := hJ; rw [hfr]
        rw [← wp_W, e135_1]
        simp [s135_1]
        split
        · rename_i h3
          obtain ⟨a, ha⟩ := get_lt (l := f.args) (k := j) (by omega)
          obtain ⟨z, hc⟩ := H a (hof.args a (List.mem_of_getElem? ha))
          simp [iaD_eArgs e _ ha, hc, mx_int]
          rw [wrapL (k := j) h3 hof.alen]
          exact ⟨q3 - 1, by omega, ⟨j + 1, _, _, _, _, _, _, _, _, _, _, rfl, by omega, hS⟩⟩
        · simp [e135_r1, s135_r1, hS]
          let J4 : Nat → List D → Store → Prop := fun q fr S => ∃ j m4 b2 b7 b16 b23 b29 b32 b33 b34 b35 b48, fr = mkf 64 [(2, b2), (3, .i .i64 (m2 : Int)), (7, b7), (8, .i .i64 (m4 : Int)), (13, eAn e x), (14, .i .i64 x.ts.length), (15, .i .i64 (k : Nat)), (16, b16), (20, eFcs e t.nl t.fs), (21, .i .i64 t.fs.length), (22, .i .i64 (i : Nat)), (23, b23), (29, b29), (32, b32), (33, b33), (34, b34), (35, b35), (45, eItems e f.inl f.items), (46, .i .i64 f.items.length), (47, .i .i64 (j : Nat)), (48, b48)] ∧ j + q = f.items.length
          refine W_loop J4 ?_ f.items.length _ _ ⟨0, _, _, _, _, _, _, _, _, _, _, _, rfl, by simp⟩
          intro q4 fr S hJ; obtain ⟨j, m4, b2, b7, b16, b23, b29, b32, b33, b34, b35, b48, hfr, hj⟩ := hJ; rw [hfr]
          rw [← wp_W, e135_0]
          simp [s135_0]
          split
          · rename_i h4
            obtain ⟨p, hp⟩ := get_lt (l := f.items) (k := j) (by omega)
            obtain ⟨z, hc⟩ := H p.2 (hof.items p (List.mem_of_getElem? hp)).2
            simp [iaD_eItems e _ hp, cellsK_it e he, hc, mx_int]
            rw [wrapL (k := j) h4 hof.ilen]
            exact ⟨q4 - 1, by omega, ⟨j + 1, _, _, _, _, _, _, _, _, _, _, _, rfl, by omega⟩⟩
          · simp [e135_r0, s135_r0, mx_int, e135_r2, s135_r2]
            rw [wrapL (k := i) h2 hot.len]
            exact ⟨q2 - 1, by omega, ⟨i + 1, _, _, _, _, _, _, _, _, _, _, _, _, _, _, _, rfl, by omega⟩⟩
    · simp [e135_r3, s135_r3]
      rw [wrapL (k := k) h hx.len]
      exact ⟨q - 1, by omega, ⟨k + 1, _, _, _, _, _, _, _, _, _, _, _, _, _, _, _, _, _, _, rfl, by omega⟩⟩
  · simp [e135_r4, s135_r4]

theorem v135t : ∀ n, EndI 135 (eAnn n) (OkAnn n)
  | 0 => fun x => nomatch x
  | n + 1 => v135t_s (GE_eAnn n) (v135t n)

end Go.Proofs.YtjlmeikcfdanmaaGreatDoor.DE.V

namespace Go.Proofs.YtjlmeikcfdanmaaGreatDoor.DE.V
open Go BT
set_option linter.unusedSimpArgs false
set_option linter.unusedVariables false

/-- The weight up to a limit; more than the limit, if there is more. -/
def Wts {α : Type} (e : α → D) (sm : α → Prop) (w : α → Nat) : Prop := ∀ a L dd, sm a → L ≤ 40 → dd ≤ 12 → ∃ r : Nat, isoCall (call dp) 59 [e a, .i .i64 (L : Nat), .i .i64 (dd : Nat)] = some (.i .i64 (r : Nat)) ∧ (r ≤ L → r = w a) ∧ r ≤ L + (dd + 1) * 8388608

theorem wrapE {z : Int} (n : Nat) (h : z = n) (hb : Bd n) : IntKind.wrap .i64 z = (n : Int) := by rw [h]; exact wrapN hb
theorem wrapD {a b : Nat} (h : b ≤ a) (h' : Bd a) : IntKind.wrap .i64 ((a : Int) - b) = ((a - b : Nat) : Int) := by
  rw [wrap64 ⟨by unfold Bd at h'; omega, by unfold Bd at h'; omega⟩]; omega
theorem wrapP {a : Nat} (h : 1 ≤ a) (h' : Bd a) : IntKind.wrap .i64 ((a : Int) - 1) = ((a - 1 : Nat) : Int) := wrapD (b := 1) h h'

theorem wt_bound {m t r L dd : Nat} (h1 : m ≤ L) (h2 : t ≤ 1048576) (h3 : r ≤ L - m + (dd - 1 + 1) * 8388608) (h4 : 1 ≤ dd) : m + t + r ≤ L + (dd + 1) * 8388608 := by omega
theorem wt_le {m t r L x : Nat} (h1 : m + t + r ≤ L) (h : r ≤ L - m → r = x) : r = x := h (by omega)

set_option maxHeartbeats 1000000 in
theorem v59s {α : Type} {e : α → D} {sm : α → Prop} {w : α → Nat} (he : GE e) (H : Wts e sm w) : Wts (eAn e) (SmAn sm) (wAn w) := by
  intro x L dd hx hL hdd
  have hxl := hx.len
  suffices hh : ∃ d, isoCall (call dp) 59 [eAn e x, .i .i64 (L : Nat), .i .i64 (dd : Nat)] = some d ∧ ∃ r : Nat, d = .i .i64 (r : Nat) ∧ (r ≤ L → r = wAn w x) ∧ r ≤ L + (dd + 1) * 8388608 by
    obtain ⟨d, h1, r, rfl, h2⟩ := hh
    exact ⟨r, h1, h2⟩
  apply j59 _ _ _ _ (by simp [noRefL, noRef_eAn he]) (by rintro d ⟨r, rfl, _⟩; rfl)
  simp [s59]
  split
  · rename_i h0
    subst h0
    refine ⟨L + 1, ?_, by omega, by omega⟩
    rw [wrapS (by unfold Bd; omega)]
  · rename_i h0
    have hd1 : 1 ≤ dd := by omega
    let J : Nat → List D → Store → Prop := fun q fr S => ∃ k m b6 b9 b10 b11 b12 b25 b49 b84 b109, fr = mkf 136 [(0, eAn e x), (1, .i .i64 (L : Nat)), (2, .i .i64 (dd : Nat)), (6, b6), (7, .i .i64 (m : Nat)), (8, .i .i64 (k : Nat)), (9, b9), (10, b10), (11, b11), (12, b12), (25, b25), (49, b49), (84, b84), (109, b109)] ∧ k + q = x.ts.length ∧ (m ≤ L → m = sumT (wTm w) x.ts k) ∧ m ≤ L + (dd + 1) * 8388608
    refine W_loop J ?_ x.ts.length _ _ ⟨0, 0, _, _, _, _, _, _, _, _, _, rfl, by simp, by simp [sumT], by omega⟩
    intro q fr S hJ; obtain ⟨k, m, b6, b9, b10, b11, b12, b25, b49, b84, b109, hfr, hk, hm, hb⟩ := hJ; rw [hfr]
    rw [← wp_W, e59_3]
    simp [s59_3]
    split
    · rename_i h
      obtain ⟨t, ht⟩ := get_lt (l := x.ts) (k := k) (by omega)
      have htm := List.mem_of_getElem? ht
      have hfl := (hx.ts t htm).len
      try simp
      split
      · rename_i hmL
        have hm := hm (by omega)
        have hst : wTm w t = 1 + t.fs.length + (t.fs.map (wFc w)).sum := rfl
        rw [wrapS (k := m) (by unfold Bd; omega)]
        simp [iaD_eAn e _ ht]
        rw [wrapE (z := (m : Int) + 1 + t.fs.length) (m + 1 + t.fs.length) (by omega) (by unfold Bd; omega)]
        obtain ⟨C2, hC2⟩ : ∃ C2, C2 = m + 1 + t.fs.length := ⟨_, rfl⟩
        rw [← hC2]
        let J2 : Nat → List D → Store → Prop := fun q fr S => ∃ i m2 b6 b10 b11 b12 b25 b49 b84 b109, fr = mkf 136 [(0, eAn e x), (1, .i .i64 (L : Nat)), (2, .i .i64 (dd : Nat)), (6, b6), (7, .i .i64 (m2 : Nat)), (8, .i .i64 (k : Nat)), (9, .i .i64 (i : Nat)), (10, b10), (11, b11), (12, b12), (25, b25), (49, b49), (84, b84), (109, b109)] ∧ i + q = t.fs.length ∧ (m2 ≤ L → m2 = C2 + sumT (wFc w) t.fs i) ∧ m2 ≤ L + (dd + 1) * 8388608
        refine W_loop J2 ?_ t.fs.length _ _ ⟨0, _, _, _, _, _, _, _, _, _, rfl, by simp, by simp [sumT], by omega⟩
        intro q2 fr S hJ; obtain ⟨i, m2, b6, b10, b11, b12, b25, b49, b84, b109, hfr, hi, hm2, hb2⟩ := hJ; rw [hfr]
        rw [← wp_W, e59_2]
        simp [s59_2, iaD_eAn e _ ht]
        have stop : ∀ b25 : D, (t.fs.length ≤ i ∨ L < m2) → ∃ m' < q, J m' (mkf 136 [(0, eAn e x), (1, .i .i64 (L : Nat)), (2, .i .i64 (dd : Nat)), (6, b6), (7, .i .i64 (m2 : Nat)), (8, .i .i64 (k + 1 : Nat)), (9, .top), (10, b10), (11, b11), (12, b12), (25, b25), (49, .top), (84, b84), (109, b109)]) S := by
          intro b25 hor
          refine ⟨q - 1, by omega, ⟨k + 1, m2, _, _, _, _, _, _, _, _, _, rfl, by omega, fun hle => ?_, hb2⟩⟩
          rw [sumT_succ _ ht, hm2 hle, sumT_all _ (show t.fs.length ≤ i by omega)]
          omega
        split
        · rename_i h2
          obtain ⟨f, hf⟩ := get_lt (l := t.fs) (k := i) (by omega)
          have hfm := List.mem_of_getElem? hf
          have hof := (hx.ts t htm).fs f hfm
          have hal := hof.alen
          have hil := hof.ilen
          have htl := hof.bound
          try simp
          split
          · rename_i hmL2
            have hm2 := hm2 (by omega)
            have hsf : wFc w f = f.items.length + f.args.length + f.bound.text.length + (f.args.map w).sum + (f.items.map (wIt w)).sum := rfl
            simp [iaD_eFcs e _ hf]
            rw [wrapA (by unfold Bd; omega)]
            try simp
            rw [wrapE (z := (m2 : Int) + f.items.length + f.args.length) (m2 + f.items.length + f.args.length) (by omega) (by unfold Bd; omega)]
            try simp
            rw [wrapE (z := (m2 : Int) + f.items.length + f.args.length + f.bound.text.length) (m2 + f.items.length + f.args.length + f.bound.text.length) (by omega) (by unfold Bd; omega)]
            obtain ⟨id, hid⟩ : ∃ id, id = S.length := ⟨_, rfl⟩
            rw [← hid]
            obtain ⟨C3, hC3⟩ : ∃ C3, C3 = m2 + f.items.length + f.args.length + f.bound.text.length := ⟨_, rfl⟩
            rw [← hC3]
            let J3 : Nat → List D → Store → Prop := fun q fr S => ∃ j m3 b6 b12 b25 b49 b84 b109, fr = mkf 136 [(0, eAn e x), (1, .i .i64 (L : Nat)), (2, .i .i64 (dd : Nat)), (6, b6), (7, .i .i64 (m3 : Nat)), (8, .i .i64 (k : Nat)), (9, .i .i64 (i : Nat)), (10, .bx id 0), (11, .i .i64 (j : Nat)), (12, b12), (25, b25), (49, b49), (84, b84), (109, b109)] ∧ j + q = f.args.length ∧ (m3 ≤ L → m3 = C3 + sumT w f.args j) ∧ m3 ≤ L + (dd + 1) * 8388608 ∧ sget S id = some (.box (eAt e f))
            refine W_loop J3 ?_ f.args.length _ _ ⟨0, _, _, _, _, _, _, _, rfl, by simp, by simp [sumT], by omega, by simp [hid]⟩
            intro q3 fr S hJ; obtain ⟨j, m3, b6, b12, b25, b49, b84, b109, hfr, hj, hm3, hb3, hS⟩ := hJ; rw [hfr]
            rw [← wp_W, e59_1]
            simp [s59_1, hS]
            have next : ∀ b84 : D, (f.args.length ≤ j ∨ L < m3) → wp (call dp) c59_r0 (mkf 136 [(0, eAn e x), (1, .i .i64 (L : Nat)), (2, .i .i64 (dd : Nat)), (6, b6), (7, .i .i64 (m3 : Nat)), (8, .i .i64 (k : Nat)), (9, .i .i64 (i : Nat)), (10, .bx id 0), (11, .i .i64 (j : Nat)), (12, b12), (25, b25), (49, b49), (84, b84), (109, b109)]) S
                (Qblk 3 (QS (call dp) c59_r1 (Qseq (fun fr' S' => ∃ m', m' < q2 ∧ J2 m' fr' S') (Qblk 2 (Qblk 1 (QS (call dp) c59_r2 (Qseq (fun fr' S' => ∃ m', m' < q ∧ J m' fr' S') (Qblk 0 (QS (call dp) c59_r3 (FinK [.t 6] fun d _ => ∃ r : Nat, stripT d = .i .i64 (r : Nat) ∧ (r ≤ L → r = wAn w x) ∧ r ≤ L + (dd + 1) * 8388608)))))))))) := by
              intro b84 hor
              simp [e59_r0, s59_r0]
              obtain ⟨C4, hC4⟩ : ∃ C4, C4 = C3 + (f.args.map w).sum := ⟨_, rfl⟩
              let J4 : Nat → List D → Store → Prop := fun q fr S => ∃ j4 m4 b6 b11 b25 b49 b84 b109, fr = mkf 136 [(0, eAn e x), (1, .i .i64 (L : Nat)), (2, .i .i64 (dd : Nat)), (6, b6), (7, .i .i64 (m4 : Nat)), (8, .i .i64 (k : Nat)), (9, .i .i64 (i : Nat)), (10, .bx id 0), (11, b11), (12, .i .i64 (j4 : Nat)), (25, b25), (49, b49), (84, b84), (109, b109)] ∧ j4 + q = f.items.length ∧ (m4 ≤ L → m4 = C4 + sumT (wIt w) f.items j4) ∧ m4 ≤ L + (dd + 1) * 8388608 ∧ sget S id = some (.box (eAt e f))
              refine W_loop J4 ?_ f.items.length _ _ ⟨0, _, _, _, _, _, _, _, rfl, by simp, fun hle => ?_, hb3, hS⟩
              · intro q4 fr S hJ; obtain ⟨j4, m4, b6, b11, b25, b49, b84, b109, hfr, hj4, hm4, hb4, hS4⟩ := hJ; rw [hfr]
                rw [← wp_W, e59_0]
                simp [s59_0, hS4]
                have last : (f.items.length ≤ j4 ∨ L < m4) → ∃ m' < q2, J2 m' (mkf 136 [(0, eAn e x), (1, .i .i64 (L : Nat)), (2, .i .i64 (dd : Nat)), (6, b6), (7, .i .i64 (m4 : Nat)), (8, .i .i64 (k : Nat)), (9, .i .i64 (i + 1 : Nat)), (10, .top), (11, b11), (12, .top), (25, b25), (49, b49), (84, b84), (109, .top)]) S := by
                  intro hor
                  refine ⟨q2 - 1, by omega, ⟨i + 1, m4, _, _, _, _, _, _, _, _, rfl, by omega, fun hle => ?_, hb4⟩⟩
                  rw [sumT_succ _ hf, hm4 hle, sumT_all _ (show f.items.length ≤ j4 by omega)]
                  omega
                split
                · rename_i h4
                  obtain ⟨p, hp⟩ := get_lt (l := f.items) (k := j4) (by omega)
                  have hpm := List.mem_of_getElem? hp
                  obtain ⟨hpv, hpo⟩ := hof.items p hpm
                  have hpt := hpv
                  try simp
                  split
                  · rename_i hmL4
                    have hm4 := hm4 (by omega)
                    have hsi : wIt w p = p.1.text.length + w p.2 := rfl
                    simp [iaD_eItems e _ hp]
                    rw [wrapA (by unfold Bd; omega), wrapD (a := L) (b := m4) (by omega) (by unfold Bd; omega)]
                    try simp
                    rw [wrapP (a := dd) (by omega) (by unfold Bd; omega)]
                    obtain ⟨r, hc, hr1, hr2⟩ := H p.2 (L - m4) (dd - 1) hpo (by omega) (by omega)
                    rw [hc]
                    try simp
                    rw [wrapE (z := (m4 : Int) + p.1.text.length + r) (m4 + p.1.text.length + r) (by omega) (by unfold Bd; omega), wrapS (k := j4) (by unfold Bd; omega)]
                    refine ⟨q4 - 1, by omega, ⟨j4 + 1, _, _, _, _, _, _, _, rfl, by omega, fun hle => ?_, wt_bound hmL4 hpt hr2 hd1, hS4⟩⟩
                    rw [sumT_succ _ hp, hsi]
                    rw [hm4, wt_le hle hr1]
                    simp only [Nat.add_assoc]
                  · rename_i hmL4
                    simp [e59_r1, s59_r1]
                    rw [wrapS (k := i) (by unfold Bd; omega)]
                    exact last (by omega)
                · rename_i h4
                  simp [e59_r1, s59_r1]
                  rw [wrapS (k := i) (by unfold Bd; omega)]
                  exact last (by omega)
              · have := hm3 hle
                rw [sumT_all _ (show f.args.length ≤ j by omega)] at this
                simp [sumT]; omega
            split
            · rename_i h3
              obtain ⟨a, ha⟩ := get_lt (l := f.args) (k := j) (by omega)
              have ham := List.mem_of_getElem? ha
              try simp
              split
              · rename_i hmL3
                have hm3 := hm3 (by omega)
                simp [iaD_eArgs e _ ha]
                rw [wrapD (a := L) (b := m3) (by omega) (by unfold Bd; omega)]
                try simp
                rw [wrapP (a := dd) (by omega) (by unfold Bd; omega)]
                obtain ⟨r, hc, hr1, hr2⟩ := H a (L - m3) (dd - 1) (hof.args a ham) (by omega) (by omega)
                rw [hc]
                try simp
                rw [wrapA (a := m3) (by unfold Bd; omega), wrapS (k := j) (by unfold Bd; omega)]
                refine ⟨q3 - 1, by omega, ⟨j + 1, _, _, _, _, _, _, _, rfl, by omega, fun hle => ?_, wt_bound (t := 0) hmL3 (Nat.zero_le _) hr2 hd1, hS⟩⟩
                rw [sumT_succ _ ha]
                rw [hm3, wt_le (t := 0) hle hr1]
                simp only [Nat.add_assoc]
              · exact next _ (by omega)
            · exact next _ (by omega)
          · rename_i hmL2
            simp [e59_r2, s59_r2]
            rw [wrapS (k := k) (by unfold Bd; omega)]
            exact stop _ (by omega)
        · rename_i h2
          simp [e59_r2, s59_r2]
          rw [wrapS (k := k) (by unfold Bd; omega)]
          exact stop _ (by omega)
      · rename_i hmL
        simp [e59_r3, s59_r3]
        exact ⟨m, rfl, fun hle => by omega, hb⟩
    · rename_i h
      simp [e59_r3, s59_r3]
      exact ⟨m, rfl, fun hle => by rw [hm hle, sumT_all _ (show x.ts.length ≤ k by omega)]; rfl, hb⟩

theorem v59 : ∀ n, Wts (eAnn n) (SmAnn n) (wAnn n)
  | 0 => fun x => nomatch x
  | n + 1 => v59s (GE_eAnn n) (v59 n)

/-- The weight's reckoning ends, whatever the lengths. -/
def WtsT {α : Type} (e : α → D) (ok : α → Prop) : Prop := ∀ a (L : Int) (dd : Nat), ok a → dd ≤ 12 → ∃ z : Int, isoCall (call dp) 59 [e a, .i .i64 L, .i .i64 (dd : Nat)] = some (.i .i64 z)

set_option maxHeartbeats 1000000 in
theorem v59t_s {α : Type} {e : α → D} {ok : α → Prop} (he : GE e) (H : WtsT e ok) : WtsT (eAn e) (OkAn ok) := by
  intro x L dd hx hdd
  suffices hh : ∃ d, isoCall (call dp) 59 [eAn e x, .i .i64 L, .i .i64 (dd : Nat)] = some d ∧ ∃ z : Int, d = .i .i64 z by
    obtain ⟨d, h1, z, rfl⟩ := hh
    exact ⟨z, h1⟩
  apply j59 _ _ _ _ (by simp [noRefL, noRef_eAn he]) (by rintro d ⟨z, rfl⟩; rfl)
  simp [s59]
  intro h0
  have hd1 : 1 ≤ dd := by omega
  have wd : IntKind.wrap .i64 ((dd : Int) - 1) = ((dd - 1 : Nat) : Int) := wrapP hd1 (by unfold Bd; omega)
  let J : Nat → List D → Store → Prop := fun q fr S => ∃ k m b6 b9 b10 b11 b12 b25 b49 b84 b109, fr = mkf 136 [(0, eAn e x), (1, .i .i64 (L : Int)), (2, .i .i64 (dd : Nat)), (6, b6), (7, .i .i64 (m : Int)), (8, .i .i64 (k : Nat)), (9, b9), (10, b10), (11, b11), (12, b12), (25, b25), (49, b49), (84, b84), (109, b109)] ∧ k + q = x.ts.length
  refine W_loop J ?_ x.ts.length _ _ ⟨0, _, _, _, _, _, _, _, _, _, _, rfl, by simp⟩
  intro q fr S hJ; obtain ⟨k, m, b6, b9, b10, b11, b12, b25, b49, b84, b109, hfr, hk⟩ := hJ; rw [hfr]
  rw [← wp_W, e59_3]
  simp [s59_3]
  split
  · rename_i h
    obtain ⟨t, ht⟩ := get_lt (l := x.ts) (k := k) (by omega)
    have hot := hx.ts t (List.mem_of_getElem? ht)
    split
    · simp [iaD_eAn e _ ht]
      let J2 : Nat → List D → Store → Prop := fun q fr S => ∃ i m2 b6 b10 b11 b12 b25 b49 b84 b109, fr = mkf 136 [(0, eAn e x), (1, .i .i64 (L : Int)), (2, .i .i64 (dd : Nat)), (6, b6), (7, .i .i64 (m2 : Int)), (8, .i .i64 (k : Nat)), (9, .i .i64 (i : Nat)), (10, b10), (11, b11), (12, b12), (25, b25), (49, b49), (84, b84), (109, b109)] ∧ i + q = t.fs.length
      refine W_loop J2 ?_ t.fs.length _ _ ⟨0, _, _, _, _, _, _, _, _, _, rfl, by simp⟩
      intro q2 fr S hJ; obtain ⟨i, m2, b6, b10, b11, b12, b25, b49, b84, b109, hfr, hi⟩ := hJ; rw [hfr]
      rw [← wp_W, e59_2]
      simp [s59_2, iaD_eAn e _ ht]
      split
      · rename_i h2
        obtain ⟨f, hf⟩ := get_lt (l := t.fs) (k := i) (by omega)
        have hof := hot.fs f (List.mem_of_getElem? hf)
        split
        · simp [iaD_eFcs e _ hf]
          obtain ⟨id, hid⟩ : ∃ id, id = S.length := ⟨_, rfl⟩
          rw [← hid]
          let J3 : Nat → List D → Store → Prop := fun q fr S => ∃ j m3 b6 b12 b25 b49 b84 b109, fr = mkf 136 [(0, eAn e x), (1, .i .i64 (L : Int)), (2, .i .i64 (dd : Nat)), (6, b6), (7, .i .i64 (m3 : Int)), (8, .i .i64 (k : Nat)), (9, .i .i64 (i : Nat)), (10, .bx id 0), (11, .i .i64 (j : Nat)), (12, b12), (25, b25), (49, b49), (84, b84), (109, b109)] ∧ j + q = f.args.length ∧ sget S id = some (.box (eAt e f))
          refine W_loop J3 ?_ f.args.length _ _ ⟨0, _, _, _, _, _, _, _, rfl, by simp, by simp [hid]⟩
          intro q3 fr S hJ; obtain ⟨j, m3, b6, b12, b25, b49, b84, b109, hfr, hj, hS⟩ := hJ; rw [hfr]
          rw [← wp_W, e59_1]
          simp [s59_1, hS]
          have next : ∀ b84 : D, wp (call dp) c59_r0 (mkf 136 [(0, eAn e x), (1, .i .i64 L), (2, .i .i64 (dd : Nat)), (6, b6), (7, .i .i64 (m3 : Int)), (8, .i .i64 (k : Nat)), (9, .i .i64 (i : Nat)), (10, .bx id 0), (11, .i .i64 (j : Nat)), (12, b12), (25, b25), (49, b49), (84, b84), (109, b109)]) S
              (Qblk 3 (QS (call dp) c59_r1 (Qseq (fun fr' S' => ∃ m', m' < q2 ∧ J2 m' fr' S') (Qblk 2 (Qblk 1 (QS (call dp) c59_r2 (Qseq (fun fr' S' => ∃ m', m' < q ∧ J m' fr' S') (Qblk 0 (QS (call dp) c59_r3 (FinK [.t 6] fun d _ => ∃ z : Int, stripT d = .i .i64 z)))))))))) := by
            intro b84
            simp [e59_r0, s59_r0]
            let J4 : Nat → List D → Store → Prop := fun q fr S => ∃ j4 m4 b6 b11 b25 b49 b84 b109, fr = mkf 136 [(0, eAn e x), (1, .i .i64 (L : Int)), (2, .i .i64 (dd : Nat)), (6, b6), (7, .i .i64 (m4 : Int)), (8, .i .i64 (k : Nat)), (9, .i .i64 (i : Nat)), (10, .bx id 0), (11, b11), (12, .i .i64 (j4 : Nat)), (25, b25), (49, b49), (84, b84), (109, b109)] ∧ j4 + q = f.items.length ∧ sget S id = some (.box (eAt e f))
            refine W_loop J4 ?_ f.items.length _ _ ⟨0, _, _, _, _, _, _, _, rfl, by simp, hS⟩
            intro q4 fr S hJ; obtain ⟨j4, m4, b6, b11, b25, b49, b84, b109, hfr, hj4, hS4⟩ := hJ; rw [hfr]
            rw [← wp_W, e59_0]
            simp [s59_0, hS4]
            split
            · rename_i h4
              obtain ⟨p, hp⟩ := get_lt (l := f.items) (k := j4) (by omega)
              split
              · obtain ⟨z, hc⟩ := H p.2 (IntKind.wrap .i64 (L - m4)) (dd - 1) (hof.items p (List.mem_of_getElem? hp)).2 (by omega)
                simp [iaD_eItems e _ hp, wd, hc]
                rw [wrapL (k := j4) h4 hof.ilen]
                exact ⟨q4 - 1, by omega, ⟨j4 + 1, _, _, _, _, _, _, _, rfl, by omega, hS4⟩⟩
              · simp [e59_r1, s59_r1]
                rw [wrapL (k := i) h2 hot.len]
                exact ⟨q2 - 1, by omega, ⟨i + 1, _, _, _, _, _, _, _, _, _, rfl, by omega⟩⟩
            · simp [e59_r1, s59_r1]
              rw [wrapL (k := i) h2 hot.len]
              exact ⟨q2 - 1, by omega, ⟨i + 1, _, _, _, _, _, _, _, _, _, rfl, by omega⟩⟩
          split
          · rename_i h3
            obtain ⟨a, ha⟩ := get_lt (l := f.args) (k := j) (by omega)
            split
            · obtain ⟨z, hc⟩ := H a (IntKind.wrap .i64 (L - m3)) (dd - 1) (hof.args a (List.mem_of_getElem? ha)) (by omega)
              simp [iaD_eArgs e _ ha, wd, hc]
              rw [wrapL (k := j) h3 hof.alen]
              exact ⟨q3 - 1, by omega, ⟨j + 1, _, _, _, _, _, _, _, rfl, by omega, hS⟩⟩
            · exact next _
          · exact next _
        · simp [e59_r2, s59_r2]
          rw [wrapL (k := k) h hx.len]
          exact ⟨q - 1, by omega, ⟨k + 1, _, _, _, _, _, _, _, _, _, _, rfl, by omega⟩⟩
      · simp [e59_r2, s59_r2]
        rw [wrapL (k := k) h hx.len]
        exact ⟨q - 1, by omega, ⟨k + 1, _, _, _, _, _, _, _, _, _, _, rfl, by omega⟩⟩
    · simp [e59_r3, s59_r3]
  · simp [e59_r3, s59_r3]

theorem v59t : ∀ n, WtsT (eAnn n) (OkAnn n)
  | 0 => fun x => nomatch x
  | n + 1 => v59t_s (GE_eAnn n) (v59t n)

end Go.Proofs.YtjlmeikcfdanmaaGreatDoor.DE.V

namespace Go.Proofs.YtjlmeikcfdanmaaGreatDoor.DE.V
open Go BT
set_option linter.unusedSimpArgs false
set_option linter.unusedVariables false

/-! Annotations of any depth. -/
abbrev SA : Type := Sigma Ann
def eS (p : SA) : D := eAnn p.1 p.2
def wS (p : SA) : Nat := wAnn p.1 p.2
def okS (p : SA) : Prop := OkAnn p.1 p.2
def smS (p : SA) : Prop := SmAnn p.1 p.2
theorem GE_eS : GE eS := fun p => GE_eAnn p.1 p.2

theorem v30 (l : List SA) (hb : Bd l.length) (hok : ∀ p, p ∈ l → okS p) : ∃ d, isoCall (call dp) 30 [.i .i64 40, eArgs eS false l] = some d ∧ ∃ c : Bool, d = .b c ∧ (c = true → ∀ p, p ∈ l → smS p → wS p ≤ 40) := by
  apply j30 _ _ _ (by simp [noRefL, noRef_eArgs GE_eS]) (by rintro d ⟨c, rfl, _⟩; rfl)
  simp [s30]
  let J : Nat → List D → Store → Prop := fun q fr S => ∃ k b4 b9, fr = mkf 20 [(0, .i .i64 40), (1, eArgs eS false l), (4, b4), (5, .i .i64 (k : Nat)), (9, b9)] ∧ k + q = l.length ∧ ∀ p, p ∈ l.take k → smS p → wS p ≤ 40
  refine W_loop J ?_ l.length _ _ ⟨0, _, _, rfl, by simp, by simp⟩
  intro q fr S hJ; obtain ⟨k, b4, b9, hfr, hk, hw⟩ := hJ; rw [hfr]
  rw [← wp_W, e30_0]
  simp [s30_0]
  split
  · rename_i h
    obtain ⟨x, hx⟩ := get_lt (l := l) (k := k) (by omega)
    have hxm := List.mem_of_getElem? hx
    obtain ⟨z, h1⟩ := v59t x.1 x.2 40 12 (hok x hxm) (by omega)
    have h1 : isoCall (call dp) 59 [eS x, .i .i64 40, .i .i64 12] = some (.i .i64 z) := h1
    simp [iaD_eArgs eS _ hx, h1]
    intro h4
    rw [wrapS (k := k) (hb.lt (Nat.le_of_lt h))]
    refine ⟨q - 1, by omega, ⟨k + 1, _, _, rfl, by omega, fun p hp hsm => ?_⟩⟩
    rw [take_snoc hx] at hp
    rcases List.mem_append.1 hp with hp | hp
    · exact hw p hp hsm
    · obtain rfl := List.mem_singleton.1 hp
      obtain ⟨r, g1, g2, g3⟩ := v59 p.1 p.2 40 12 hsm (by omega) (by omega)
      have g1 : isoCall (call dp) 59 [eS p, .i .i64 40, .i .i64 12] = some (.i .i64 (r : Nat)) := g1
      rw [g1] at h1
      injection h1 with h1
      injection h1 with _ h1
      have := g2 (by omega)
      unfold wS; omega
  · rename_i h
    simp [e30_r0, s30_r0]
    rw [List.take_of_length_le (by omega)] at hw
    exact hw

section
variable {α : Type} {e : α → D} {ok : α → Prop} {w : α → Nat}

def idem (f : Fc α) : Bool := decide (f.kind = 3 ∨ f.kind = 4)

theorem v98 (he : GE e) (f : Fc α) : isoCall (call dp) 98 [.agg (eAt e f)] = some (.b (idem f)) := by
  apply i98 _ _ (by simp [noRefL, noRef_agAt he]) rfl
  simp [s98, idem]
  by_cases h3 : f.kind = 3 <;> by_cases h4 : f.kind = 4 <;> simp [h3, h4]

def fiFc (f : Fc α) : Bool := decide (f.exp ≤ 64) && decide (f.items.length ≤ 1024)
theorem v140 (he : GE e) (f : Fc α) : isoCall (call dp) 140 [.agg (eFc e f)] = some (.b (!fiFc f)) := by
  apply i140 _ _ (by simp [noRefL, noRef_agFc he]) rfl
  simp [s140, fiFc]
  by_cases h1 : 64 < f.exp <;> by_cases h2 : 1024 < f.items.length <;> simp [h1, h2] <;> omega

def fiTm (t : Tm α) : Bool := decide (t.fs.length ≤ 64) && t.fs.all fiFc
theorem any_not_all {β : Type} (p : β → Bool) (l : List β) : l.any (fun x => !p x) = !l.all p := by
  induction l with
  | nil => rfl
  | cons x l ih => simp [ih, Bool.not_and]
theorem v138 (he : GE e) (t : Tm α) (hb : Len63 t.fs.length) : isoCall (call dp) 138 [.agg (eTm e t)] = some (.b (!fiTm t)) := by
  apply i138 _ _ (by simp [noRefL, noRef_agTm he]) rfl
  have h := v139 he (fun f => !fiFc f) 140 t.nl t.fs hb fun f _ => v140 he f
  rw [any_not_all] at h
  unfold fiTm
  generalize t.fs.all fiFc = A at *
  simp [s138, h]
  by_cases h1 : 64 < t.fs.length
  · simp [h1, show ¬ t.fs.length ≤ 64 by omega]; omega
  · have h2 : (t.fs.length : Int) ≤ 64 := by omega
    cases A <;> simp [h1, h2] <;> omega

/-- The number that a call answers. -/
noncomputable def callI (g : Nat) (d : D) : Int := match isoCall (call dp) g [d] with
  | some (.i _ z) => z
  | _ => 0
theorem callI_eq {g : Nat} {d : D} {z : Int} (h : isoCall (call dp) g [d] = some (.i .i64 z)) : callI g d = z := by unfold callI; rw [h]

noncomputable def fitAn (e : α → D) (x : An α) : Bool := decide (x.ts.length ≤ 512) && decide (callI 135 (eAn e x) ≤ 8) && decide (callI 136 (eAn e x) ≤ 4096) && x.ts.all fiTm

theorem v96 (he : GE e) (hs : EndI 136 (eAn e) (OkAn ok)) (hd : EndI 135 (eAn e) (OkAn ok)) (x : An α) (hx : OkAn ok x) : isoCall (call dp) 96 [eAn e x] = some (.b (fitAn e x)) := by
  apply i96 _ _ (by simp [noRefL, noRef_eAn he]) rfl
  have h := v137 he (fun t => !fiTm t) 138 x.nl x.ts hx.len fun t ht => v138 he t (hx.ts t ht).len
  have h : isoCall (call dp) 137 [eAn e x, .fn 138 []] = some (.b (x.ts.any fun t => !fiTm t)) := h
  rw [any_not_all] at h
  unfold fitAn
  generalize x.ts.all fiTm = A at *
  obtain ⟨z1, e1⟩ := hs x hx
  obtain ⟨z2, e2⟩ := hd x hx
  rw [callI_eq e1, callI_eq e2]
  simp [s96, e1, e2, h]
  by_cases h1 : 512 < x.ts.length
  · simp [h1, show ¬ x.ts.length ≤ 512 by omega]; omega
  · by_cases h2 : 8 < z2
    · simp [h1, h2, show ¬ z2 ≤ 8 by omega]
    · by_cases h3 : 4096 < z1
      · simp [h1, h2, h3, show ¬ z1 ≤ 4096 by omega]
      · have k1 : (x.ts.length : Int) ≤ 512 := by omega
        have k2 : z2 ≤ 8 := by omega
        have k3 : z1 ≤ 4096 := by omega
        cases A <;> simp [h1, h2, h3, k1, k2, k3] <;> omega

def isC (x : An α) : Bool := match x.ts with
  | [t] => decide (t.fs.length = 0)
  | _ => false
def isU (x : An α) : Bool := match x.ts with
  | [t] => decide (t.c = 1) && (match t.fs with
    | [f] => decide (f.exp = 1) && (decide (f.kind = 2) || idem f)
    | _ => false)
  | _ => false
def hasC (x : An α) : Bool := x.ts.any fun t => decide (t.fs.length = 0)

@[simp] theorem iaD_terms0 (k : IntKind) (nl : Bool) (t : Tm α) (l : List (Tm α)) : iaD 2 (eTms e nl (t :: l)) (.i k 0) = some (.el (eTm e t) 0) := iaD_eTms e k (n := 0) rfl
@[simp] theorem iaD_facs0 (k : IntKind) (nl : Bool) (t : Fc α) (l : List (Fc α)) : iaD 11 (eFcs e nl (t :: l)) (.i k 0) = some (.el (eFc e t) 0) := iaD_eFcs e k (n := 0) rfl
@[simp] theorem iaD_args0 (k : IntKind) (nl : Bool) (t : α) (l : List α) : iaD 1 (eArgs e nl (t :: l)) (.i k 0) = some (.el [e t] 0) := iaD_eArgs e k (n := 0) rfl
@[simp] theorem iaD_args1 (k : IntKind) (nl : Bool) (t u : α) (l : List α) : iaD 1 (eArgs e nl (t :: u :: l)) (.i k 1) = some (.el [e u] 0) := iaD_eArgs e k (n := 1) rfl

theorem v152 (he : GE e) (x : An α) : isoCall (call dp) 152 [eAn e x] = some (.b (isC x)) := by
  apply i152 _ _ (by simp [noRefL, noRef_eAn he]) rfl
  obtain ⟨nl, ts⟩ := x
  match ts with
  | [] => simp [s152, eAn, isC]
  | [t] => simp [-OX_b, s152, eAn, isC]
  | t :: u :: l => simp [s152, eAn, isC]; omega

theorem v153 (he : GE e) (x : An α) : isoCall (call dp) 153 [eAn e x] = some (.b (isU x)) := by
  apply i153 _ _ (by simp [noRefL, noRef_eAn he]) rfl
  obtain ⟨nl, ts⟩ := x
  match ts with
  | [] => simp [s153, eAn, isU]
  | [⟨c, fnl, fs⟩] =>
    by_cases hc : c = 1
    · match fs with
      | [] => simp [s153, eAn, isU, hc]
      | [f] =>
        simp [s153, eAn, isU, hc, v98 he]
        by_cases h1 : f.exp = 1
        · by_cases h2 : f.kind = 2
          · simp [h1, h2]
          · simp [h1, h2]
        · simp [h1]
      | f :: g :: l => 
        have : ¬ ((l.length : Int) + 1 + 1 = 1) := by omega
        simp [s153, eAn, isU, hc, this]
    · simp [s153, eAn, isU, hc]
  | t :: u :: l =>
    have : ¬ ((l.length : Int) + 1 + 1 = 1) := by omega
    simp [s153, eAn, isU, this]

theorem v192 (he : GE e) (t : Tm α) : isoCall (call dp) 192 [.agg (eTm e t)] = some (.b (decide (t.fs.length = 0))) := by
  apply i192 _ _ (by simp [noRefL, noRef_agTm he]) rfl
  have : decide ((t.fs.length : Int) = 0) = decide (t.fs.length = 0) := by rw [decide_eq_decide]; omega
  simp [-OX_b, s192]

theorem v154 (he : GE e) (x : An α) (hb : Len63 x.ts.length) : isoCall (call dp) 154 [eAn e x] = some (.b (hasC x)) := by
  apply i154 _ _ (by simp [noRefL, noRef_eAn he]) rfl
  have h := v137 he (fun t => decide (t.fs.length = 0)) 192 x.nl x.ts hb fun t _ => v192 he t
  have h : isoCall (call dp) 137 [eAn e x, .fn 192 []] = some (.b (hasC x)) := h
  simp [-OX_b, s154, h]

def badV (fn : Int) (b : Vl) (p : Vl × α) : Bool := !vlOk p.1 || !decide (p.1.kind = b.kind) || (decide (fn = 0) && !decide (p.1.int = 1))
def fitg (fn : Int) (items : List (Vl × α)) (op : Int) (b : Vl) : Bool :=
  decide (0 ≤ fn) && decide (fn ≤ 3) && decide (5 ≤ op) && decide (op ≤ 10) && vlOk b && !(decide (fn = 0 ∨ fn = 1) && !decide (b.kind = 0)) && !items.any (badV fn b)

theorem v195 (he : GE e) {S : Store} {ib ifn : Nat} {fn : Int} {b : Vl} (p : Vl × α) (h1 : sget S ib = some (.box (eVl b))) (h2 : sget S ifn = some (.box [.i .i64 fn])) :
    ∃ r S', call dp 195 [.agg (eIt e p), .bx ib 0, .bx ifn 0] S = some (r, S') ∧ r = .b (badV fn b p) ∧ S' = .box (eIt e p) :: S := by
  obtain ⟨r, S', e1, e2, e3⟩ := f195 (.agg (eIt e p)) (.bx ib 0) (.bx ifn 0) S (fun r S' => r = .b (badV fn b p) ∧ S' = .box (eIt e p) :: S) (by
    have n1 := sget_lt h1
    have n2 := sget_lt h2
    simp [s195, cellsK_it e he, v194, show ¬ ib = S.length by omega, show ¬ ifn = S.length by omega, h1, h2, badV]
    by_cases k1 : vlOk p.1 = true
    · by_cases k2 : p.1.kind = b.kind
      · by_cases k3 : fn = 0
        · by_cases k4 : p.1.int = 1 <;> simp [k1, k2, k3, k4]
        · simp [k1, k2, k3]
      · simp [k1, k2]
    · simp [k1])
  exact ⟨r, S', e1, e2, e3⟩

theorem v2193 (he : GE e) (nl : Bool) (l : List (Vl × α)) (hb : Len63 l.length) {S0 : Store} {ib ifn : Nat} {fn : Int} {b : Vl} (p : Vl × α → Bool) (hp : p = badV fn b) (h1 : sget S0 ib = some (.box (eVl b))) (h2 : sget S0 ifn = some (.box [.i .i64 fn])) :
    ∃ r S', call dp 2193 [eItems e nl l, .fn 195 [.bx ib 0, .bx ifn 0]] S0 = some (r, S') ∧ ∃ n : Int, r = .i .i64 n ∧ decide (0 ≤ n) = l.any p := by
  refine f2193 _ _ _ (fun r _ => ∃ n : Int, r = .i .i64 n ∧ decide (0 ≤ n) = l.any p) ?_
  simp [s2193]
  let J : Nat → List D → Store → Prop := fun q fr S => ∃ k b4 b9, fr = mkf 19 [(0, eItems e nl l), (1, .fn 195 [.bx ib 0, .bx ifn 0]), (4, b4), (7, .i .i64 l.length), (8, .i .i64 (k : Nat)), (9, b9)] ∧ k + q = l.length ∧ l.any p = (l.drop k).any p ∧ sget S ib = some (.box (eVl b)) ∧ sget S ifn = some (.box [.i .i64 fn])
  refine W_loop J ?_ l.length _ _ ⟨0, _, _, rfl, by simp, by simp, h1, h2⟩
  intro q fr S hJ; obtain ⟨k, b4, b9, hfr, hk, hc, hS1, hS2⟩ := hJ; rw [hfr]
  rw [← wp_W, e2193_0]
  simp [s2193_0]
  split
  · rename_i h
    obtain ⟨x, hx⟩ := get_lt (l := l) (k := k) (by omega)
    obtain ⟨r, S', c1, rfl, rfl⟩ := v195 he x hS1 hS2
    rw [drop_get hx, List.any_cons] at hc
    simp [iaD_eItems e _ hx, cellsK_it e he, c1, ← hp]
    split
    · rename_i hpx
      simp only [hpx, Bool.true_or] at hc
      have := List.any_eq_true.1 hc
      simpa using this
    · rename_i hpx
      simp only [hpx, Bool.false_or] at hc
      rw [wrapL (k := k) h hb]
      exact ⟨q - 1, by omega, ⟨k + 1, _, _, rfl, by omega, hc, sget_push hS1, sget_push hS2⟩⟩
  · rw [List.drop_eq_nil_of_le (show l.length ≤ k by omega)] at hc
    simp [e2193_r0, s2193_r0]
    simpa using hc

theorem v158 (he : GE e) (fn op : Int) (b : Vl) (nl : Bool) (l : List (Vl × α)) (hb : Len63 l.length) : isoCall (call dp) 158 [.i .i64 fn, eItems e nl l, .i .i64 op, .agg (eVl b)] = some (.b (fitg fn l op b)) := by
  apply i158 _ _ _ _ _ (by simp [noRefL, noRef_eItems he]) rfl
  simp [s158, v194]
  have hS1 : sget [Ent.box (eVl b), Ent.box [D.i .i64 fn]] 1 = some (.box (eVl b)) := rfl
  have hS2 : sget [Ent.box (eVl b), Ent.box [D.i .i64 fn]] 0 = some (.box [D.i .i64 fn]) := rfl
  obtain ⟨r, S', c1, n, rfl, hn⟩ := v2193 he nl l hb _ rfl hS1 hS2
  have hc : ∃ S'', call dp 2155 [eItems e nl l, .fn 195 [.bx 1 0, .bx 0 0]] [Ent.box (eVl b), Ent.box [D.i .i64 fn]] = some (.b (l.any (badV fn b)), S'') := by
    obtain ⟨r, S', c2, rfl⟩ := f2155 (eItems e nl l) (.fn 195 [.bx 1 0, .bx 0 0]) [Ent.box (eVl b), Ent.box [D.i .i64 fn]] (fun r _ => r = .b (l.any (badV fn b))) (by
      simp only [s2155, c1, OX_some, bin_geq, hn])
    exact ⟨S', c2⟩
  obtain ⟨S'', hc⟩ := hc
  unfold fitg
  generalize l.any (badV fn b) = A at *
  by_cases k1 : fn < 0
  · simp [k1, show ¬ 0 ≤ fn by omega]
  · by_cases k2 : 3 < fn
    · simp [k1, k2, show ¬ fn ≤ 3 by omega]
    · by_cases k3 : op < 5
      · simp [k1, k2, k3, show ¬ 5 ≤ op by omega]
      · by_cases k4 : 10 < op
        · simp [k1, k2, k3, k4, show ¬ op ≤ 10 by omega]
        · simp only [k1, k2, k3, k4, show 0 ≤ fn by omega, show fn ≤ 3 by omega, show 5 ≤ op by omega, show op ≤ 10 by omega]
          by_cases k5 : vlOk b = true
          · by_cases k6 : fn = 0 ∨ fn = 1
            · by_cases k7 : b.kind = 0
              · rcases k6 with k6 | k6 <;> subst k6 <;> simp [k5, k7, hc, Bool.not_eq_true']
              · rcases k6 with k6 | k6 <;> subst k6 <;> simp [k5, k7]
            · have k8 : ¬ fn = 0 := fun h => k6 (.inl h)
              have k9 : ¬ fn = 1 := fun h => k6 (.inr h)
              simp [k5, k8, k9, hc]
          · simp [k5]

open Classical in
theorem v157 (he : GE e) (c' : Vl × α → Vl × α → Int) (nl : Bool) (l : List (Vl × α)) (hb : Len63 l.length) (hf : ∀ x, x ∈ l → ∀ y, y ∈ l → isoCall (call dp) 148 [.agg (eIt e x), .agg (eIt e y)] = some (.i .i64 (c' x y))) :
    isoCall (call dp) 157 [eItems e nl l, .fn 148 []] = some (.b (decide (∀ (j : Nat) x y, l[j]? = some x → l[j + 1]? = some y → ¬ c' y x < 0))) := by
  apply i157 _ _ _ (by simp [noRefL, noRef_eItems he]; rfl) rfl
  have hs : strip (.fn 148 []) = .fn 148 [] := rfl
  simp only [s157, hs, strip_eItems, lenD_eItems, OX_some, bin_sub]
  rw [wrap64 (n := (l.length : Int) - 1) ⟨by omega, by unfold Len63 at hb; omega⟩]
  let J : Nat → List D → Store → Prop := fun q fr S => ∃ i b4 b10, fr = mkf 25 [(0, eItems e nl l), (1, .fn 148 []), (4, b4), (5, .i .i64 i), (10, b10)] ∧ (i ≤ q ∧ i < l.length ∧ -1 ≤ i) ∧ ∀ (j : Nat) x y, i ≤ j → l[j]? = some x → l[j + 1]? = some y → ¬ c' y x < 0
  refine W_loop J ?_ l.length _ _ ⟨_, _, _, rfl, ⟨by omega, by omega, by omega⟩, fun j x y h1 h2 h3 => by have := (List.getElem?_eq_some_iff.1 h3).1; omega⟩
  intro q fr S hJ; obtain ⟨i, b4, b10, hfr, hi, hc⟩ := hJ; rw [hfr]
  rw [← wp_W, e157_0]
  simp [s157_0]
  split
  · rename_i h
    obtain ⟨k, rfl⟩ : ∃ k : Nat, i = (k + 1 : Nat) := ⟨(i - 1).toNat, by omega⟩
    obtain ⟨x, hx⟩ := get_lt (l := l) (k := k) (by omega)
    obtain ⟨y, hy⟩ := get_lt (l := l) (k := k + 1) (by omega)
    have e1 : IntKind.i64.wrap (((k + 1 : Nat) : Int) - 1) = (k : Int) := by rw [wrap64 ⟨by omega, by unfold Len63 at hb; omega⟩]; omega
    rw [iaD_eItems e _ hy, e1]
    simp [iaD_eItems e _ hx, hf y (List.mem_of_getElem? hy) x (List.mem_of_getElem? hx)]
    split
    · rename_i hlt
      exact ⟨k, x.1, x.2, hx, y.1, y.2, hy, hlt⟩
    · rename_i hlt
      refine ⟨q - 1, by omega, ⟨_, _, _, rfl, ⟨by omega, by omega, by omega⟩, fun j x' y' h1 h2 h3 => ?_⟩⟩
      by_cases hjk : j = k
      · subst hjk
        rw [hx] at h2; rw [hy] at h3
        injection h2 with h2; injection h3 with h3
        subst h2 h3
        exact hlt
      · exact hc j x' y' (by omega) h2 h3
  · rename_i h
    simp [e157_r0, s157_r0]
    intro j x1 x2 y1 y2 h1 h2
    have := hc j (x1, x2) (y1, y2) (by omega) h1 h2
    omega
end

end Go.Proofs.YtjlmeikcfdanmaaGreatDoor.DE.V

namespace Go.Proofs.YtjlmeikcfdanmaaGreatDoor.DE.V
open Go BT
set_option linter.unusedSimpArgs false
set_option linter.unusedVariables false

/-- What is asked of a nested annotation. -/
structure Prm (α : Type) where
  V : α → Bool
  em : α → Bool
  isC : α → Bool
  isU : α → Bool
  hasC : α → Bool
  c : α → α → Int

section
variable {α : Type}
def vlZ (v : Vl) : Bool := decide (v.kind = 0) && (decide (v.int = 0) && v.text == [])
def plain0 (f : Fc α) : Bool := decide (f.fn = 0) && decide (f.items.length = 0) && decide (f.op = 0) && vlZ f.bound
def Srt (c' : Vl × α → Vl × α → Int) (l : List (Vl × α)) : Prop := ∀ (j : Nat) x y, l[j]? = some x → l[j + 1]? = some y → ¬ c' y x < 0
def mon2 (P : Prm α) : List α → Bool
  | [a, b] => !decide (P.c a b = 0)
  | _ => false
def del1 (P : Prm α) : List α → Bool
  | [a] => !P.isC a && !P.isU a
  | _ => false
def abs1 (P : Prm α) : List α → Bool
  | [a] => !P.hasC a
  | _ => false
open Classical in
/-- Is the atom valid? -/
noncomputable def vAt (P : Prm α) (f : Fc α) : Bool :=
  if f.kind ≠ 4 ∧ plain0 f = false then false
  else if f.kind ≠ 0 ∧ f.row ≠ (0, 0) then false
  else if f.args.any (fun a => !P.V a || P.em a) = true then false
  else if f.kind = 0 then rowOk f.row && decide (f.args.length = 0)
  else if f.kind = 1 then mon2 P f.args
  else if f.kind = 2 then del1 P f.args
  else if f.kind = 3 then abs1 P f.args
  else if f.kind = 4 then decide (f.args.length = 0) && decide (0 < f.items.length) && !f.items.any (fun p => !P.V p.2 || P.em p.2) && decide (Srt (cmpIt P.c) f.items) && fitg f.fn f.items f.op f.bound
  else false

/-- What is there before place k. -/
def pre {β : Type} (l : List β) (k : Nat) : Option β := if k = 0 then none else l[k - 1]?
def okExp (f : Fc α) : Bool := decide (1 ≤ f.exp) && (!idem f || decide (f.exp = 1))
noncomputable def vFs (P : Prm α) : Option (Fc α) → List (Fc α) → Bool
  | _, [] => true
  | p, f :: l => (okExp f && (match p with | none => true | some g => decide (cmpAt P.c g f < 0)) && vAt P f) && vFs P (some f) l
noncomputable def vTs (P : Prm α) : Option (Tm α) → List (Tm α) → Bool
  | _, [] => true
  | p, t :: l => (decide (1 ≤ t.c) && decide (t.c ≤ 1152921504606846976) && (match p with | none => true | some g => decide (cmpTl P.c g t < 0)) && vFs P none t.fs) && vTs P (some t) l
noncomputable def vAn (P : Prm α) (e : α → D) (x : An α) : Bool := fitAn e x && vTs P none x.ts

theorem pre_succ {β : Type} {l : List β} {k : Nat} {x : β} (h : l[k]? = some x) : pre l (k + 1) = some x := by simp [pre, h]
theorem pre_zero {β : Type} {l : List β} : pre l 0 = none := rfl

variable {e : α → D} {ok : α → Prop}

/-- The calls on nested annotations. -/
structure PrmOk (e : α → D) (ok : α → Prop) (P : Prm α) : Prop where
  he : GE e
  len : ∀ a, ∃ n : Nat, lenD false (e a) = some (.i .i64 n) ∧ P.em a = decide (n = 0)
  V : ∀ a, ok a → isoCall (call dp) 60 [e a] = some (.b (P.V a))
  isC : ∀ a, isoCall (call dp) 152 [e a] = some (.b (P.isC a))
  isU : ∀ a, isoCall (call dp) 153 [e a] = some (.b (P.isU a))
  hasC : ∀ a, ok a → isoCall (call dp) 154 [e a] = some (.b (P.hasC a))
  c : Cmps e ok P.c
  eq : ∀ a b, ok a → isoCall (call dp) 151 [e a, e b] = some (.b (decide (P.c a b = 0)))

variable {P : Prm α}

theorem v150 (H : PrmOk e ok P) (a : α) (h : ok a) : isoCall (call dp) 150 [e a] = some (.b (!P.V a || P.em a)) := by
  obtain ⟨n, h1, h2⟩ := H.len a
  apply i150 _ _ (by simp [noRefL, H.he.noRef, H.he.strip]) rfl
  simp only [s150, H.he.strip, H.V a h, OX_some, un_not]
  cases P.V a
  · simp
  · simp [-OX_b, h1, h2]

theorem v156 (H : PrmOk e ok P) (p : Vl × α) (h : ok p.2) : isoCall (call dp) 156 [.agg (eIt e p)] = some (.b (!P.V p.2 || P.em p.2)) := by
  obtain ⟨n, h1, h2⟩ := H.len p.2
  apply i156 _ _ (by simp [noRefL, noRef_agIt H.he, strip_agIt e H.he]) rfl
  simp only [s156, strip_agIt e H.he, bxx_eq, cellsK_it e H.he, OX_some, faD_bx, Nat.zero_add, ldD_bx, sget_cons, List.length_nil, if_true, ldE_box, rdK_one, it_3, H.V p.2 h, un_not]
  cases P.V p.2
  · simp
  · simp [-OX_b, h1, h2]

theorem seqL_vl (r : Vl) : seqL [.i, .i, .s] (eVl r) [.i .i64 0, .i .i64 0, .s []] = some (vlZ r) := by
  simp [eVl, seqL, isSK, seq1, vlZ]
  rfl
@[simp] theorem bin_neq_vl (r : Vl) : binD .neq (.agg [.i, .i, .s]) (.agg (eVl r)) (.agg [.i .i64 0, .i .i64 0, .s []]) = some (.b (!vlZ r)) := by simp only [binD, seqL_vl, eqD]
@[simp] theorem bin_neq_row0 (r : Row) : binD .neq (.agg [.i, .i]) (.agg (eRow r)) (.agg [.i .i64 0, .i .i64 0]) = some (.b (!decide (r = (0, 0)))) := bin_neq_row r (0, 0)

open Classical in
theorem v100 (H : PrmOk e ok P) (f : Fc α) (h : OkFc ok f) : isoCall (call dp) 100 [.agg (eAt e f)] = some (.b (vAt P f)) := by
  have he := H.he
  have hA := v101 he (fun a => !P.V a || P.em a) 150 f.anl f.args h.alen fun a ha => v150 H a (h.args a ha)
  have hI := v155 he (fun p => !P.V p.2 || P.em p.2) 156 f.inl f.items h.ilen fun p hp => v156 H p (h.items p hp).2
  have hS := v157 he (cmpIt P.c) f.inl f.items h.ilen fun p hp q _ => v148 he H.c p q (h.items p hp).2
  have hF := v158 he f.fn f.op f.bound f.inl f.items h.ilen
  have h92 := v92 f.row
  apply i100 _ _ (by simp [noRefL, noRef_agAt he]) rfl
  unfold vAt
  have hS : isoCall (call dp) 157 [eItems e f.inl f.items, .fn 148 []] = some (.b (decide (Srt (cmpIt P.c) f.items))) := hS
  generalize hgA : f.args.any (fun a => !P.V a || P.em a) = A at *
  generalize f.items.any (fun p => !P.V p.2 || P.em p.2) = B at *
  generalize decide (Srt (cmpIt P.c) f.items) = C at *
  generalize fitg f.fn f.items f.op f.bound = F at *
  generalize rowOk f.row = R at *
  have hbl : bldV [.i .i64 0, .i .i64 0, .s []] [] = some [.i .i64 0, .i .i64 0, .s []] := rfl
  have hbl2 : bldV [.i .i64 0, .i .i64 0] [] = some [.i .i64 0, .i .i64 0] := rfl
  by_cases hp : f.kind ≠ 4 ∧ plain0 f = false
  · obtain ⟨k4, hp0⟩ := hp
    simp only [k4, hp0, ne_eq, not_false_eq_true, and_self, if_true]
    simp [s100, hbl, hbl2, k4]
    unfold plain0 at hp0
    by_cases a1 : f.fn = 0
    · by_cases a2 : f.items = []
      · by_cases a3 : f.op = 0
        · simp [a1, a2, a3] at hp0
          simp [a1, a2, a3, hp0]
        · simp [a1, a2, a3]
      · simp [a1, a2]
    · simp [a1]
  · have hp' : f.kind = 4 ∨ (f.fn = 0 ∧ f.items = [] ∧ f.op = 0 ∧ vlZ f.bound = true) := by
      by_cases k4 : f.kind = 4
      · exact .inl k4
      · right
        have : plain0 f = true := by
          cases hq : plain0 f with
          | true => rfl
          | false => exact absurd ⟨k4, hq⟩ hp
        simp [plain0] at this
        exact ⟨this.1.1.1, by simpa using this.1.1.2, this.1.2, this.2⟩
    rw [if_neg hp]
    by_cases hr : f.kind ≠ 0 ∧ f.row ≠ (0, 0)
    · rw [if_pos hr]
      rcases hp' with k4 | ⟨a1, a2, a3, a4⟩
      · simp [s100, hbl, hbl2, k4, hr.2]
      · by_cases k4 : f.kind = 4
        · simp [s100, hbl, hbl2, k4, hr.2]
        · simp [s100, hbl, hbl2, k4, a1, a2, a3, a4, hr.1, hr.2]
    · rw [if_neg hr]
      have hr' : f.kind = 0 ∨ f.row = (0, 0) := by
        by_cases k0 : f.kind = 0
        · exact .inl k0
        · by_cases hz : f.row = (0, 0)
          · exact .inr hz
          · exact absurd ⟨k0, hz⟩ hr
      cases A with
      | true =>
        rcases hp' with k4 | ⟨a1, a2, a3, a4⟩
        · rcases hr' with k0 | hz
          · omega
          · simp [s100, hbl, hbl2, k4, hz, hA]
        · by_cases k4 : f.kind = 4
          · rcases hr' with k0 | hz
            · omega
            · simp [s100, hbl, hbl2, k4, hz, hA]
          · rcases hr' with k0 | hz
            · simp [s100, hbl, hbl2, k0, a1, a2, a3, a4, hA]
            · by_cases k0 : f.kind = 0
              · simp [s100, hbl, hbl2, k0, a1, a2, a3, a4, hA]
              · simp [s100, hbl, hbl2, k0, k4, a1, a2, a3, a4, hz, hA]
      | false =>
        simp only [Bool.false_eq_true, if_false]
        by_cases k0 : f.kind = 0
        · have : f.fn = 0 ∧ f.items = [] ∧ f.op = 0 ∧ vlZ f.bound = true := by rcases hp' with k4 | h; omega; exact h
          obtain ⟨a1, a2, a3, a4⟩ := this
          simp [s100, hbl, hbl2, k0, a1, a2, a3, a4, hA, h92]
          cases R <;> by_cases hl : f.args = [] <;> simp [hl]
        · have hz : f.row = (0, 0) := by rcases hr' with h | h; exact absurd h k0; exact h
          by_cases k4 : f.kind = 4
          · simp [s100, hbl, hbl2, k4, hz, hA, hI]
            by_cases l0 : f.args = []
            · by_cases li : 0 < f.items.length
              · cases B <;> cases C <;> cases F <;> simp [l0, li, hS, hF]
              · simp [l0, li]
            · simp [l0]
          · have : f.fn = 0 ∧ f.items = [] ∧ f.op = 0 ∧ vlZ f.bound = true := by rcases hp' with h | h; exact absurd h k4; exact h
            obtain ⟨a1, a2, a3, a4⟩ := this
            have two : ∀ l : List α, (l.length : Int) + 1 + 1 + 1 ≠ 2 := fun l => by omega
            have one : ∀ l : List α, (l.length : Int) + 1 + 1 ≠ 1 := fun l => by omega
            by_cases k1 : f.kind = 1
            · match hl : f.args with
              | [] => simp [s100, hbl, hbl2, k1, a1, a2, a3, a4, hz, hl, hl ▸ hA, mon2]
              | [a] => simp [s100, hbl, hbl2, k1, a1, a2, a3, a4, hz, hl, hl ▸ hA, mon2]
              | [a, b] =>
                have := H.eq a b (h.args a (by simp [hl]))
                simp [-OX_b, s100, hbl, hbl2, k1, a1, a2, a3, a4, hz, hl, hl ▸ hA, mon2, this]
              | a :: b :: c :: l => simp [s100, hbl, hbl2, k1, a1, a2, a3, a4, hz, hl, hl ▸ hA, mon2, two]
            · by_cases k2 : f.kind = 2
              · match hl : f.args with
                | [] => simp [s100, hbl, hbl2, k2, a1, a2, a3, a4, hz, hl, hl ▸ hA, del1]
                | [a] =>
                  simp [s100, hbl, hbl2, k2, a1, a2, a3, a4, hz, hl, hl ▸ hA, del1, H.isC, H.isU]
                  cases P.isC a <;> cases P.isU a <;> simp
                | a :: b :: l => simp [s100, hbl, hbl2, k2, a1, a2, a3, a4, hz, hl, hl ▸ hA, del1, one]
              · by_cases k3 : f.kind = 3
                · match hl : f.args with
                  | [] => simp [s100, hbl, hbl2, k3, a1, a2, a3, a4, hz, hl, hl ▸ hA, abs1]
                  | [a] =>
                    have := H.hasC a (h.args a (by simp [hl]))
                    simp [s100, hbl, hbl2, k3, a1, a2, a3, a4, hz, hl, hl ▸ hA, abs1, this]
                  | a :: b :: l => simp [s100, hbl, hbl2, k3, a1, a2, a3, a4, hz, hl, hl ▸ hA, abs1, one]
                · simp [s100, hbl, hbl2, k0, k1, k2, k3, k4, a1, a2, a3, a4, hz, hA]
def okPrev {β : Type} (c : β → β → Int) (p : Option β) (t : β) : Bool := match p with
  | none => true
  | some g => decide (c g t < 0)
theorem vFs_cons (p : Option (Fc α)) (f : Fc α) (l : List (Fc α)) : vFs P p (f :: l) = ((okExp f && okPrev (cmpAt P.c) p f && vAt P f) && vFs P (some f) l) := by
  cases p <;> rfl
theorem vTs_cons (p : Option (Tm α)) (t : Tm α) (l : List (Tm α)) : vTs P p (t :: l) = ((decide (1 ≤ t.c) && decide (t.c ≤ 1152921504606846976) && okPrev (cmpTl P.c) p t && vFs P none t.fs) && vTs P (some t) l) := by
  cases p <;> rfl
theorem vFs_nil (p : Option (Fc α)) : vFs P p [] = true := by cases p <;> rfl
theorem vTs_nil (p : Option (Tm α)) : vTs P p [] = true := by cases p <;> rfl
theorem okPrevS {β : Type} (c : β → β → Int) {l : List β} {k : Nat} {g : β} (h : l[k]? = some g) (t : β) : okPrev c (pre l (k + 1)) t = decide (c g t < 0) := by rw [pre_succ h]; rfl

set_option maxHeartbeats 1000000 in
/-- The loop over a term's factors. -/
theorem v60f (H : PrmOk e ok P) (t : Tm α) (hot : OkTm ok t) (a0 b2 a10 a11 a12 b42 b43 b13 : D) (id : Nat) (S0 : Store) (hid : sget S0 id = some (.box (eTm e t))) (Q : Ex → List D → Store → Prop)
    (hF : vFs P none t.fs = false → ∀ S, Q .ret (mkf 85 [(0, .top), (2, .b false), (4, .top), (10, .top), (11, .top), (12, .top), (13, b13), (40, .top), (41, .top), (42, .top), (43, .top)]) S)
    (hT : vFs P none t.fs = true → ∀ S b42 b43, Q (.exit 2) (mkf 85 [(0, a0), (2, b2), (4, .bx id 0), (10, a10), (11, a11), (12, a12), (13, b13), (40, eFcs e t.nl t.fs), (41, .i .i64 t.fs.length), (42, b42), (43, b43)]) S) :
    W (call dp) (.loop [] c60_0) (mkf 85 [(0, a0), (2, b2), (4, .bx id 0), (10, a10), (11, a11), (12, a12), (13, b13), (40, eFcs e t.nl t.fs), (41, .i .i64 t.fs.length), (42, .i .i64 0), (43, b43)]) S0 Q := by
  have he := H.he
  have hfl := hot.len
  let J2 : Nat → List D → Store → Prop := fun q fr S => ∃ i b43, fr = mkf 85 [(0, a0), (2, b2), (4, .bx id 0), (10, a10), (11, a11), (12, a12), (13, b13), (40, eFcs e t.nl t.fs), (41, .i .i64 t.fs.length), (42, .i .i64 (i : Nat)), (43, b43)] ∧ i + q = t.fs.length ∧ vFs P none t.fs = vFs P (pre t.fs i) (t.fs.drop i) ∧ sget S id = some (.box (eTm e t))
  refine W_loop J2 ?_ t.fs.length _ _ ⟨0, _, rfl, by simp, by simp [pre_zero], hid⟩
  intro q2 fr S hJ; obtain ⟨i, b43, hfr, hi, hv2, hS⟩ := hJ; rw [hfr]
  rw [← wp_W, e60_0]
  simp [s60_0]
  split
  · rename_i h2
    obtain ⟨f, hf⟩ := get_lt (l := t.fs) (k := i) (by omega)
    have hfm := List.mem_of_getElem? hf
    have hof := hot.fs f hfm
    have hneid : ¬ id = S.length := by have := sget_lt hS; omega
    rw [drop_get hf, vFs_cons] at hv2
    have h98 := v98 he f
    have h100 := v100 H f hof
    have w1 : IntKind.i64.wrap ((i : Int) + 1) = ((i + 1 : Nat) : Int) := wrapL (k := i) h2 hot.len
    have bad : vFs P none t.fs = false → Q .ret (mkf 85 [(0, .top), (2, .b false), (4, .top), (10, .top), (11, .top), (12, .top), (13, b13), (40, .top), (41, .top), (42, .top), (43, .top)]) (.box (eFc e f) :: S) := fun h => hF h _
    have good : okExp f = true → okPrev (cmpAt P.c) (pre t.fs i) f = true → vAt P f = true → ∀ b42, ∃ m', m' < q2 ∧ J2 m' (mkf 85 [(0, a0), (2, b2), (4, .bx id 0), (10, a10), (11, a11), (12, a12), (13, b13), (40, eFcs e t.nl t.fs), (41, .i .i64 t.fs.length), (42, .i .i64 ((i + 1 : Nat) : Int)), (43, b42)]) (.box (eFc e f) :: S) := by
      intro g1 g2 g3 b42
      refine ⟨q2 - 1, by omega, ⟨i + 1, _, rfl, by omega, ?_, sget_push hS⟩⟩
      rw [hv2, g1, g2, g3, pre_succ hf]; rfl
    have hpv : ∀ k', i = k' + 1 → ∃ g, t.fs[k']? = some g ∧ isoCall (call dp) 99 [.agg (eAt e g), .agg (eAt e f)] = some (.i .i64 (cmpAt P.c g f)) := by
      intro k' hk'
      obtain ⟨g, hg⟩ := get_lt (l := t.fs) (k := k') (by omega)
      exact ⟨g, hg, v99 he H.c g f (hot.fs g (List.mem_of_getElem? hg))⟩
    unfold okExp at hv2 good
    simp only [w1]
    generalize vAt P f = VV at *
    by_cases a1 : f.exp < 1
    · have : decide (1 ≤ f.exp) = false := by simp; omega
      simp only [this, Bool.false_and] at hv2
      simp [iaD_eFcs e _ hf, a1]
      exact bad hv2
    · have a1' : decide (1 ≤ f.exp) = true := by simp; omega
      by_cases a2 : idem f = true ∧ ¬ f.exp = 1
      · simp only [a2.1, a2.2, decide_false, Bool.not_true, Bool.or_false, Bool.and_false, Bool.false_and] at hv2
        simp [iaD_eFcs e _ hf, a1, h98, a2]
        exact bad hv2
      · have a3 : (decide (1 ≤ f.exp) && (!idem f || decide (f.exp = 1))) = true := by
          cases hq : idem f
          · simp [a1']
          · have : f.exp = 1 := by
              by_cases hq2 : f.exp = 1
              · exact hq2
              · exact absurd ⟨hq, hq2⟩ a2
            simp [this]
        have a4 : idem f = false ∨ (idem f = true ∧ f.exp = 1) := by
          cases hq : idem f
          · exact .inl rfl
          · right
            refine ⟨rfl, ?_⟩
            by_cases hq2 : f.exp = 1
            · exact hq2
            · exact absurd ⟨hq, hq2⟩ a2
        rw [a3, Bool.true_and] at hv2
        replace good := good a3
        rcases Nat.eq_zero_or_pos i with i0 | i0
        · have hp0 : okPrev (cmpAt P.c) (pre t.fs i) f = true := by rw [i0]; rfl
          have i0' : ¬ 0 < i := by omega
          rw [hp0, Bool.true_and] at hv2
          replace good := good hp0
          cases VV with
          | false =>
            rcases a4 with a4 | ⟨a4, a5⟩
            · simp [iaD_eFcs e _ hf, a1, h98, a4, h100, i0']
              exact bad (by simpa using hv2)
            · simp [iaD_eFcs e _ hf, a5, h98, a4, h100, i0']
              exact bad (by simpa using hv2)
          | true =>
            rcases a4 with a4 | ⟨a4, a5⟩
            · simp [iaD_eFcs e _ hf, a1, h98, a4, h100, i0']
              exact good rfl _
            · simp [iaD_eFcs e _ hf, a5, h98, a4, h100, i0']
              exact good rfl _
        · obtain ⟨k', hk'⟩ : ∃ k', i = k' + 1 := ⟨i - 1, by omega⟩
          obtain ⟨g, hg, hc⟩ := hpv k' hk'
          have hpp : okPrev (cmpAt P.c) (pre t.fs i) f = decide (cmpAt P.c g f < 0) := by rw [hk']; exact okPrevS _ hg f
          rw [hpp] at hv2 good
          have w2 : IntKind.i64.wrap ((i : Int) - 1) = (k' : Int) := by unfold Len63 at hfl; rw [wrap64 ⟨by omega, by omega⟩]; omega
          have i0' : 0 < i := i0
          by_cases hcl : cmpAt P.c g f < 0
          · have hcl' : ¬ 0 ≤ cmpAt P.c g f := by omega
            simp only [hcl, decide_true, Bool.true_and] at hv2
            replace good := good (by simpa using hcl)
            cases VV with
            | false =>
              rcases a4 with a4 | ⟨a4, a5⟩
              · simp [iaD_eFcs e _ hf, iaD_eFcs e _ hg, a1, h98, a4, h100, i0', hneid, hS, w2, hc, hcl']
                exact bad (by simpa using hv2)
              · simp [iaD_eFcs e _ hf, iaD_eFcs e _ hg, a5, h98, a4, h100, i0', hneid, hS, w2, hc, hcl']
                exact bad (by simpa using hv2)
            | true =>
              rcases a4 with a4 | ⟨a4, a5⟩
              · simp [iaD_eFcs e _ hf, iaD_eFcs e _ hg, a1, h98, a4, h100, i0', hneid, hS, w2, hc, hcl']
                exact good rfl _
              · simp [iaD_eFcs e _ hf, iaD_eFcs e _ hg, a5, h98, a4, h100, i0', hneid, hS, w2, hc, hcl']
                exact good rfl _
          · have hcl' : 0 ≤ cmpAt P.c g f := by omega
            simp only [hcl, decide_false, Bool.false_and] at hv2
            rcases a4 with a4 | ⟨a4, a5⟩
            · simp [iaD_eFcs e _ hf, iaD_eFcs e _ hg, a1, h98, a4, h100, i0', hneid, hS, w2, hc, hcl']
              exact bad hv2
            · simp [iaD_eFcs e _ hf, iaD_eFcs e _ hg, a5, h98, a4, h100, i0', hneid, hS, w2, hc, hcl']
              exact bad hv2
  · rename_i h2
    rw [List.drop_eq_nil_of_le (show t.fs.length ≤ i by omega), vFs_nil] at hv2
    exact hT hv2 _ _ _

set_option maxHeartbeats 1000000 in
theorem v60s (H : PrmOk e ok P) (hs : EndI 136 (eAn e) (OkAn ok)) (hd : EndI 135 (eAn e) (OkAn ok)) (x : An α) (hx : OkAn ok x) :
    isoCall (call dp) 60 [eAn e x] = some (.b (vAn P e x)) := by
  have he := H.he
  have h96 := v96 he hs hd x hx
  have hlen := hx.len
  apply i60 _ _ (by simp [noRefL, noRef_eAn he]) rfl
  unfold vAn
  simp [-OX_b, s60, h96]
  cases hfit : fitAn e x
  · simp
  · simp
    generalize hR : vTs P none x.ts = R
    let J : Nat → List D → Store → Prop := fun q fr S => ∃ k b2 b4 b13 b40 b41 b42 b43, fr = mkf 85 [(0, eAn e x), (2, b2), (4, b4), (10, eAn e x), (11, .i .i64 x.ts.length), (12, .i .i64 (k : Nat)), (13, b13), (40, b40), (41, b41), (42, b42), (43, b43)] ∧ k + q = x.ts.length ∧ vTs P none x.ts = vTs P (pre x.ts k) (x.ts.drop k)
    refine W_loop J ?_ x.ts.length _ _ ⟨0, _, _, _, _, _, _, _, rfl, by simp, by simp [pre_zero]⟩
    intro q fr S hJ; obtain ⟨k, b2, b4, b13, b40, b41, b42, b43, hfr, hk, hv⟩ := hJ; rw [hfr]
    rw [← wp_W, e60_1]
    simp [s60_1]
    rw [hR] at hv
    split
    · rename_i h
      obtain ⟨t, ht⟩ := get_lt (l := x.ts) (k := k) (by omega)
      have htm := List.mem_of_getElem? ht
      have hot := hx.ts t htm
      rw [drop_get ht, vTs_cons] at hv
      have w1 : IntKind.i64.wrap ((k : Int) + 1) = ((k + 1 : Nat) : Int) := wrapL (k := k) h hx.len
      have inner : decide (1 ≤ t.c) = true → decide (t.c ≤ 1152921504606846976) = true → okPrev (cmpTl P.c) (pre x.ts k) t = true → ∀ b2 b13 b43 S0 id, sget S0 id = some (.box (eTm e t)) →
          W (call dp) (.loop [] c60_0) (mkf 85 [(0, eAn e x), (2, b2), (4, .bx id 0), (10, eAn e x), (11, .i .i64 x.ts.length), (12, .i .i64 (k : Nat)), (13, b13), (40, eFcs e t.nl t.fs), (41, .i .i64 t.fs.length), (42, .i .i64 0), (43, b43)]) S0
            (Qblk 2 (Qblk 1 (QS (call dp) c60_r0 (Qseq (fun fr' S' => ∃ m', m' < q ∧ J m' fr' S') (Qblk 0 (QS (call dp) c60_r1 (FinK [.t 2] fun dd _ => stripT dd = .b R))))))) := by
        intro g1 g2 g3 b2 b13 b43 S0 id hid
        rw [g1, g2, g3] at hv
        refine v60f H t hot _ _ _ _ _ b43 _ _ id S0 hid _ ?_ ?_
        · intro hvf S
          rw [hvf] at hv
          simp [hv]
        · intro hvf S b42 b43
          rw [hvf] at hv
          simp [e60_r0, s60_r0]
          rw [w1]
          exact ⟨q - 1, by omega, ⟨k + 1, _, _, _, _, _, _, _, rfl, by omega, by rw [hR, hv, pre_succ ht]; rfl⟩⟩
      by_cases c1 : t.c < 1
      · have : decide (1 ≤ t.c) = false := by simp; omega
        rw [this] at hv
        simp [iaD_eAn e _ ht, c1, hv]
      · have c1' : decide (1 ≤ t.c) = true := by simp; omega
        by_cases c2 : 1152921504606846976 < t.c
        · have : decide (t.c ≤ 1152921504606846976) = false := by simp; omega
          rw [this] at hv
          simp [iaD_eAn e _ ht, c1, c2, hv]
        · have c2' : decide (t.c ≤ 1152921504606846976) = true := by simp; omega
          rcases Nat.eq_zero_or_pos k with k0 | k0
          · have hp0 : okPrev (cmpTl P.c) (pre x.ts k) t = true := by rw [k0]; rfl
            have k0' : ¬ 0 < k := by omega
            simp [iaD_eAn e _ ht, c1, c2, k0']
            exact inner c1' c2' hp0 _ _ _ _ _ (by simp)
          · obtain ⟨k', hk'⟩ : ∃ k', k = k' + 1 := ⟨k - 1, by omega⟩
            obtain ⟨g, hg⟩ := get_lt (l := x.ts) (k := k') (by omega)
            have hc := v97 he H.c g t (hx.ts g (List.mem_of_getElem? hg))
            have hpp : okPrev (cmpTl P.c) (pre x.ts k) t = decide (cmpTl P.c g t < 0) := by rw [hk']; exact okPrevS _ hg t
            rw [hpp] at hv inner
            have w2 : IntKind.i64.wrap ((k : Int) - 1) = (k' : Int) := by unfold Len63 at hlen; rw [wrap64 ⟨by omega, by omega⟩]; omega
            by_cases hcl : cmpTl P.c g t < 0
            · have hcl' : ¬ 0 ≤ cmpTl P.c g t := by omega
              simp [iaD_eAn e _ ht, iaD_eAn e _ hg, c1, c2, k0, w2, hc, hcl']
              exact inner c1' c2' (by simpa using hcl) _ _ _ _ _ (by simp)
            · have hcl' : 0 ≤ cmpTl P.c g t := by omega
              simp only [hcl, decide_false, Bool.and_false, Bool.false_and] at hv
              simp [iaD_eAn e _ ht, iaD_eAn e _ hg, c1, c2, k0, w2, hc, hcl', hv]
    · rename_i h
      rw [List.drop_eq_nil_of_le (show x.ts.length ≤ k by omega), vTs_nil] at hv
      simp [e60_r1, s60_r1, hv]

end

end Go.Proofs.YtjlmeikcfdanmaaGreatDoor.DE.V

namespace Go.Proofs.YtjlmeikcfdanmaaGreatDoor.DE
open Go

/-! lineage/lineageref05.Valid -/
/-! lineage/lineageref05.Fits -/
/-! lineage/lineageref05.Nesting -/
/-! lineage/lineageref05.Size -/
/-! lineage/lineageref05.CompareFactors -/
/-! lineage/lineageref05.validAtom -/
/-! lineage/lineageref05.CompareAtom -/
/-! lineage/lineageref05.number -/
/-! lineage/lineageref05.plain -/
/-! lineage/lineageref05.Same -/
/-! lineage/lineageref05.constant -/
/-! lineage/lineageref05.binary -/
/-! lineage/lineageref05.kinds -/
/-! lineage/lineageref05.CompareItems -/
/-! lineage/lineageref05.CompareRow -/
/-! lineage/lineageref05.Compare -/
/-! lineage/lineageref01.Compare -/
/-! lineage/lineageref01.Valid -/
/-! lineage/lineageref01.sign -/
/-! lineage/lineageref05.Variables -/
/-! lineage/lineageref05.PutRow -/
/-! lineage/lineageref05.Rows -/
/-! lineage/lineageref11.Tests -/
/-! lineage/lineageref11.sum -/
/-! lineage/lineageref11.factor -/
/-! lineage/lineageref11.fits -/
/-! lineage/annotation.Variables -/
def s63 (cf : CallF) (a0 : D) (S : Store) (Post : PT) : Prop :=
  al [.sl 2 true [] .ro] S fun x1 S2 =>
  OX (cf 103 [a0, (.fn 104 [x1])] S2) fun p4 =>
  OX (ldD p4.2 1 false x1) fun x5 =>
  OX (isoCall cf 81 [x5]) fun x6 =>
  Post x6 p4.2
theorem e63 (cf : CallF) (a0 : D) (S : Store) (Post : PT) : wp cf c63 (frame0 d63 [a0]) S (FinK d63.res Post) = s63 cf a0 S Post := wpS_of (by kernel_rfl)
theorem j63 (a0 : D) (Post : D → Prop) (ha : noRefL (stripL [a0]) = true) (hr : ∀ r, Post r → noRef r = true) (h : s63 (call dp) (strip a0) [] fun d _ => Post (stripT d)) : ∃ r, isoCall (call dp) 63 [a0] = some r ∧ Post r := iso_x (f := d63) rfl ⟨rfl, by decide⟩ ha hr (by rw [← e63] at h; exact h)
/-! lineage/annotation.every -/
def s103_0 (cf : CallF) (a1 a7 a12 a13 a14 a15 a19 a20 a21 a22 a31 a32 a33 a34 a43 a44 a45 a46 : D) (S : Store) (Q : QT) : Prop :=
  OX (binD .lss .num a45 a44) fun x1 =>
  WB x1
  (OX (iaD 4 a43 a45) fun x2 =>
  OX (ldD S 4 true x2) fun x3 =>
  al [.i .i64 0, .i .i64 0, .s [], .sl 2 true [] .ro] S fun x4 S5 =>
  OX (stD S5 4 true x4 x3) fun S7 =>
  OX (faD 3 x4) fun x8 =>
  OX (ldD S7 1 false x8) fun x9 =>
  OX (cf 103 [x9, a1] S7) fun p11 =>
  OX (binD .add .num a45 (.i .i64 1)) fun x12 =>
  Q .normal (mkf 56 [(1, a1), (7, a7), (12, a12), (13, a13), (14, a14), (15, a15), (19, a19), (20, a20), (21, a21), (22, a22), (31, a31), (32, a32), (33, a33), (34, a34), (43, a43), (44, a44), (45, x12), (46, .top)]) p11.2)
  (Q (.exit 6) (mkf 56 [(1, a1), (7, a7), (12, a12), (13, a13), (14, a14), (15, a15), (19, a19), (20, a20), (21, a21), (22, a22), (31, a31), (32, a32), (33, a33), (34, a34), (43, a43), (44, a44), (45, a45), (46, x1)]) S)
theorem e103_0 (cf : CallF) (a1 a7 a12 a13 a14 a15 a19 a20 a21 a22 a31 a32 a33 a34 a43 a44 a45 a46 : D) (S : Store) (Q : QT) : wp cf c103_0 (fkill (mkf 56 [(1, a1), (7, a7), (12, a12), (13, a13), (14, a14), (15, a15), (19, a19), (20, a20), (21, a21), (22, a22), (31, a31), (32, a32), (33, a33), (34, a34), (43, a43), (44, a44), (45, a45), (46, a46)]) []) S Q = s103_0 cf a1 a7 a12 a13 a14 a15 a19 a20 a21 a22 a31 a32 a33 a34 a43 a44 a45 a46 S Q := wpS_of (by kernel_rfl)
def s103_r0 (cf : CallF) (a1 a7 a12 a13 a14 a15 a19 a20 a21 a22 a31 a32 a33 a34 a43 a44 a45 a46 : D) (S : Store) (Q : QT) : Prop :=
  OX (faD 0 a7) fun x13 =>
  OX (faD 5 x13) fun x14 =>
  OX (ldD S 1 false x14) fun x15 =>
  OX (lenD false x15) fun x16 =>
  W cf (.loop [] c103_0) (mkf 56 [(1, a1), (7, .top), (12, a12), (13, a13), (14, a14), (15, a15), (19, a19), (20, a20), (21, a21), (22, a22), (31, .top), (32, .top), (33, .top), (34, .top), (43, x15), (44, x16), (45, (.i .i64 0)), (46, a46)]) S (Qblk 6 Q)
theorem e103_r0 (cf : CallF) (a1 a7 a12 a13 a14 a15 a19 a20 a21 a22 a31 a32 a33 a34 a43 a44 a45 a46 : D) (S : Store) (Q : QT) : wp cf c103_r0 (mkf 56 [(1, a1), (7, a7), (12, a12), (13, a13), (14, a14), (15, a15), (19, a19), (20, a20), (21, a21), (22, a22), (31, a31), (32, a32), (33, a33), (34, a34), (43, a43), (44, a44), (45, a45), (46, a46)]) S Q = s103_r0 cf a1 a7 a12 a13 a14 a15 a19 a20 a21 a22 a31 a32 a33 a34 a43 a44 a45 a46 S Q := wpS_of (by kernel_rfl)
def s103_r1 (cf : CallF) (a1 a7 a12 a13 a14 a15 a19 a20 a21 a22 a31 a32 a33 a34 a43 a44 a45 a46 : D) (S : Store) (Q : QT) : Prop :=
  OX (binD .add .num a21 (.i .i64 1)) fun x17 =>
  Q .normal (mkf 56 [(1, a1), (7, a7), (12, a12), (13, a13), (14, a14), (15, a15), (19, a19), (20, a20), (21, x17), (22, a22), (31, a31), (32, a32), (33, a33), (34, a34), (43, .top), (44, .top), (45, .top), (46, .top)]) S
theorem e103_r1 (cf : CallF) (a1 a7 a12 a13 a14 a15 a19 a20 a21 a22 a31 a32 a33 a34 a43 a44 a45 a46 : D) (S : Store) (Q : QT) : wp cf c103_r1 (mkf 56 [(1, a1), (7, a7), (12, a12), (13, a13), (14, a14), (15, a15), (19, a19), (20, a20), (21, a21), (22, a22), (31, a31), (32, a32), (33, a33), (34, a34), (43, a43), (44, a44), (45, a45), (46, a46)]) S Q = s103_r1 cf a1 a7 a12 a13 a14 a15 a19 a20 a21 a22 a31 a32 a33 a34 a43 a44 a45 a46 S Q := wpS_of (by kernel_rfl)
def s103_1 (cf : CallF) (a1 a7 a12 a13 a14 a15 a19 a20 a21 a22 a31 a32 a33 a34 a43 a44 a45 a46 : D) (S : Store) (Q : QT) : Prop :=
  OX (binD .lss .num a33 a32) fun x18 =>
  WB x18
  (OX (iaD 1 a31 a33) fun x19 =>
  OX (ldD S 1 false x19) fun x20 =>
  OX (cf 103 [x20, a1] S) fun p22 =>
  OX (binD .add .num a33 (.i .i64 1)) fun x23 =>
  Q .normal (mkf 56 [(1, a1), (7, a7), (12, a12), (13, a13), (14, a14), (15, a15), (19, a19), (20, a20), (21, a21), (22, a22), (31, a31), (32, a32), (33, x23), (34, .top), (43, a43), (44, a44), (45, a45), (46, a46)]) p22.2)
  (Q (.exit 4) (mkf 56 [(1, a1), (7, a7), (12, a12), (13, a13), (14, a14), (15, a15), (19, a19), (20, a20), (21, a21), (22, a22), (31, a31), (32, a32), (33, a33), (34, x18), (43, a43), (44, a44), (45, a45), (46, a46)]) S)
theorem e103_1 (cf : CallF) (a1 a7 a12 a13 a14 a15 a19 a20 a21 a22 a31 a32 a33 a34 a43 a44 a45 a46 : D) (S : Store) (Q : QT) : wp cf c103_1 (fkill (mkf 56 [(1, a1), (7, a7), (12, a12), (13, a13), (14, a14), (15, a15), (19, a19), (20, a20), (21, a21), (22, a22), (31, a31), (32, a32), (33, a33), (34, a34), (43, a43), (44, a44), (45, a45), (46, a46)]) []) S Q = s103_1 cf a1 a7 a12 a13 a14 a15 a19 a20 a21 a22 a31 a32 a33 a34 a43 a44 a45 a46 S Q := wpS_of (by kernel_rfl)
def s103_r2 (cf : CallF) (a1 a7 a12 a13 a14 a15 a19 a20 a21 a22 a31 a32 a33 a34 a43 a44 a45 a46 : D) (S : Store) (Q : QT) : Prop :=
  OX (binD .add .num a14 (.i .i64 1)) fun x24 =>
  Q .normal (mkf 56 [(1, a1), (7, a7), (12, a12), (13, a13), (14, x24), (15, a15), (19, .top), (20, .top), (21, .top), (22, .top), (31, a31), (32, a32), (33, a33), (34, a34), (43, a43), (44, a44), (45, a45), (46, a46)]) S
theorem e103_r2 (cf : CallF) (a1 a7 a12 a13 a14 a15 a19 a20 a21 a22 a31 a32 a33 a34 a43 a44 a45 a46 : D) (S : Store) (Q : QT) : wp cf c103_r2 (mkf 56 [(1, a1), (7, a7), (12, a12), (13, a13), (14, a14), (15, a15), (19, a19), (20, a20), (21, a21), (22, a22), (31, a31), (32, a32), (33, a33), (34, a34), (43, a43), (44, a44), (45, a45), (46, a46)]) S Q = s103_r2 cf a1 a7 a12 a13 a14 a15 a19 a20 a21 a22 a31 a32 a33 a34 a43 a44 a45 a46 S Q := wpS_of (by kernel_rfl)
def s103_2 (cf : CallF) (a1 a7 a12 a13 a14 a15 a19 a20 a21 a22 a31 a32 a33 a34 a43 a44 a45 a46 : D) (S : Store) (Q : QT) : Prop :=
  OX (binD .lss .num a21 a20) fun x25 =>
  WB x25
  (OX (iaD 11 a19 a21) fun x26 =>
  OX (ldD S 11 true x26) fun x27 =>
  al [.i .i64 0, .i .i64 0, .i .i64 0, .sl 1 true [] .ro, .i .i64 0, .sl 4 true [] .ro, .i .i64 0, .i .i64 0, .i .i64 0, .s [], .i .i64 0] S fun x28 S29 =>
  OX (stD S29 11 true x28 x27) fun S31 =>
  OX (faD 0 x28) fun x32 =>
  OX (ldD S31 10 true x32) fun x33 =>
  OX (fnD a1) fun q35 => OX (cf q35.1 ([x33] ++ q35.2) S31) fun p36 =>
  OX (faD 0 x28) fun x37 =>
  OX (faD 3 x37) fun x38 =>
  OX (ldD p36.2 1 false x38) fun x39 =>
  OX (lenD false x39) fun x40 =>
  W cf (.loop [] c103_1) (mkf 56 [(1, a1), (7, x28), (12, a12), (13, a13), (14, a14), (15, a15), (19, a19), (20, a20), (21, a21), (22, .top), (31, x39), (32, x40), (33, (.i .i64 0)), (34, a34), (43, a43), (44, a44), (45, a45), (46, a46)]) p36.2 (Qblk 4 (QS cf c103_r0 (Qblk 3 (QS cf c103_r1 Q)))))
  (Q (.exit 2) (mkf 56 [(1, a1), (7, a7), (12, a12), (13, a13), (14, a14), (15, a15), (19, a19), (20, a20), (21, a21), (22, x25), (31, a31), (32, a32), (33, a33), (34, a34), (43, a43), (44, a44), (45, a45), (46, a46)]) S)
theorem e103_2 (cf : CallF) (a1 a7 a12 a13 a14 a15 a19 a20 a21 a22 a31 a32 a33 a34 a43 a44 a45 a46 : D) (S : Store) (Q : QT) : wp cf c103_2 (fkill (mkf 56 [(1, a1), (7, a7), (12, a12), (13, a13), (14, a14), (15, a15), (19, a19), (20, a20), (21, a21), (22, a22), (31, a31), (32, a32), (33, a33), (34, a34), (43, a43), (44, a44), (45, a45), (46, a46)]) []) S Q = s103_2 cf a1 a7 a12 a13 a14 a15 a19 a20 a21 a22 a31 a32 a33 a34 a43 a44 a45 a46 S Q := wpS_of (by kernel_rfl)
def s103_3 (cf : CallF) (a1 a7 a12 a13 a14 a15 a19 a20 a21 a22 a31 a32 a33 a34 a43 a44 a45 a46 : D) (S : Store) (Q : QT) : Prop :=
  OX (binD .lss .num a14 a13) fun x41 =>
  WB x41
  (OX (iaD 2 a12 a14) fun x42 =>
  OX (ldD S 2 true x42) fun x43 =>
  al [.i .i64 0, .sl 11 true [] .ro] S fun x44 S45 =>
  OX (stD S45 2 true x44 x43) fun S47 =>
  OX (faD 1 x44) fun x48 =>
  OX (ldD S47 1 false x48) fun x49 =>
  OX (lenD false x49) fun x50 =>
  W cf (.loop [] c103_2) (mkf 56 [(1, a1), (7, a7), (12, a12), (13, a13), (14, a14), (15, .top), (19, x49), (20, x50), (21, (.i .i64 0)), (22, a22), (31, a31), (32, a32), (33, a33), (34, a34), (43, a43), (44, a44), (45, a45), (46, a46)]) S47 (Qblk 2 (Qblk 1 (QS cf c103_r2 Q))))
  (Q (.exit 0) (mkf 56 [(1, a1), (7, a7), (12, a12), (13, a13), (14, a14), (15, x41), (19, a19), (20, a20), (21, a21), (22, a22), (31, a31), (32, a32), (33, a33), (34, a34), (43, a43), (44, a44), (45, a45), (46, a46)]) S)
theorem e103_3 (cf : CallF) (a1 a7 a12 a13 a14 a15 a19 a20 a21 a22 a31 a32 a33 a34 a43 a44 a45 a46 : D) (S : Store) (Q : QT) : wp cf c103_3 (fkill (mkf 56 [(1, a1), (7, a7), (12, a12), (13, a13), (14, a14), (15, a15), (19, a19), (20, a20), (21, a21), (22, a22), (31, a31), (32, a32), (33, a33), (34, a34), (43, a43), (44, a44), (45, a45), (46, a46)]) []) S Q = s103_3 cf a1 a7 a12 a13 a14 a15 a19 a20 a21 a22 a31 a32 a33 a34 a43 a44 a45 a46 S Q := wpS_of (by kernel_rfl)
def s103 (cf : CallF) (a0 a1 : D) (S : Store) (Post : PT) : Prop :=
  OX (lenD false a0) fun x51 =>
  W cf (.loop [] c103_3) (mkf 56 [(1, a1), (7, .top), (12, a0), (13, x51), (14, (.i .i64 0)), (15, .top), (19, .top), (20, .top), (21, .top), (22, .top), (31, .top), (32, .top), (33, .top), (34, .top), (43, .top), (44, .top), (45, .top), (46, .top)]) S (Qblk 0 (FinK [] Post))
theorem e103 (cf : CallF) (a0 a1 : D) (S : Store) (Post : PT) : wp cf c103 (frame0 d103 [a0, a1]) S (FinK d103.res Post) = s103 cf a0 a1 S Post := wpS_of (by kernel_rfl)
theorem f103 (a0 a1 : D) (S : Store) (Post : PT) (h : s103 (call dp) a0 a1 S Post) : ∃ r S', call dp 103 [a0, a1] S = some (r, S') ∧ Post r S' := call_s (f := d103) rfl ⟨rfl, by decide⟩ (by rw [← e103] at h; exact h)

/-! lineage/annotation.Variables$1 -/
def s104 (cf : CallF) (a0 a1 : D) (S : Store) (Post : PT) : Prop :=
  bxx 10 true a0 S fun x1 S2 =>
  OX (faD 0 x1) fun x3 =>
  OX (ldD S2 1 false x3) fun x4 =>
  OX (binD .eql .num x4 (.i .i64 0)) fun x5 =>
  jn (fun (y7 y8 y9 : D) (S10 : Store) =>
  Post (.tup []) S10) fun k6 =>
  WB x5
  (OX (ldD S2 1 false a1) fun x11 =>
  OX (faD 1 x1) fun x12 =>
  OX (ldD S2 2 true x12) fun x13 =>
  OX (cellsV 2 true [x13]) fun x14 =>
  OX (appD 2 false x11 (.sl 2 false x14 .ro) S2) fun p16 =>
  OX (stD p16.2 1 false a1 p16.1) fun S18 =>
  k6 D.top D.top D.top S18)
  (k6 a1 x1 x5 S2)
theorem e104 (cf : CallF) (a0 a1 : D) (S : Store) (Post : PT) : wp cf c104 (frame0 d104 [a0, a1]) S (FinK d104.res Post) = s104 cf a0 a1 S Post := wpS_of (by kernel_rfl)
theorem f104 (a0 a1 : D) (S : Store) (Post : PT) (h : s104 (call dp) a0 a1 S Post) : ∃ r S', call dp 104 [a0, a1] S = some (r, S') ∧ Post r S' := call_s (f := d104) rfl ⟨rfl, by decide⟩ (by rw [← e104] at h; exact h)

/-! lineage/bdd.tested -/
def s61_r0 (cf : CallF) (a2 a7 a8 a9 a10 a14 a15 a16 a17 : D) (S : Store) (Q : QT) : Prop :=
  OX (binD .add .num a9 (.i .i64 1)) fun x1 =>
  Q .normal (mkf 32 [(2, a2), (7, a7), (8, a8), (9, x1), (10, a10), (14, .top), (15, .top), (16, .top), (17, .top)]) S
theorem e61_r0 (cf : CallF) (a2 a7 a8 a9 a10 a14 a15 a16 a17 : D) (S : Store) (Q : QT) : wp cf c61_r0 (mkf 32 [(2, a2), (7, a7), (8, a8), (9, a9), (10, a10), (14, a14), (15, a15), (16, a16), (17, a17)]) S Q = s61_r0 cf a2 a7 a8 a9 a10 a14 a15 a16 a17 S Q := wpS_of (by kernel_rfl)
def s61_0 (cf : CallF) (a2 a7 a8 a9 a10 a14 a15 a16 a17 : D) (S : Store) (Q : QT) : Prop :=
  OX (binD .lss .num a16 a15) fun x2 =>
  WB x2
  (OX (iaD 11 a14 a16) fun x3 =>
  OX (ldD S 11 true x3) fun x4 =>
  al [.i .i64 0, .i .i64 0, .i .i64 0, .sl 1 true [] .ro, .i .i64 0, .sl 4 true [] .ro, .i .i64 0, .i .i64 0, .i .i64 0, .s [], .i .i64 0] S fun x5 S6 =>
  OX (stD S6 11 true x5 x4) fun S8 =>
  OX (faD 0 x5) fun x9 =>
  OX (faD 0 x9) fun x10 =>
  OX (ldD S8 1 false x10) fun x11 =>
  OX (binD .eql .num x11 (.i .i64 4)) fun x12 =>
  OX (gsel x12 false (faD 0 x5)) fun x13 =>
  OX (gsel x12 false (faD 3 x13)) fun x14 =>
  OX (gsel x12 false (ldD S8 1 false x14)) fun x15 =>
  OX (gsel x12 false (isoCall cf 101 [x15, (.fn 61 [])])) fun x16 =>
  OX (pickD x12 (.b true) x16) fun x17 =>
  WB x17
  (Q .ret (mkf 32 [(2, (.b true)), (7, .top), (8, .top), (9, .top), (10, a10), (14, .top), (15, .top), (16, .top), (17, .top)]) S8)
  (OX (binD .add .num a16 (.i .i64 1)) fun x18 =>
  Q .normal (mkf 32 [(2, a2), (7, a7), (8, a8), (9, a9), (10, a10), (14, a14), (15, a15), (16, x18), (17, .top)]) S8))
  (Q (.exit 2) (mkf 32 [(2, a2), (7, a7), (8, a8), (9, a9), (10, a10), (14, a14), (15, a15), (16, a16), (17, x2)]) S)
theorem e61_0 (cf : CallF) (a2 a7 a8 a9 a10 a14 a15 a16 a17 : D) (S : Store) (Q : QT) : wp cf c61_0 (fkill (mkf 32 [(2, a2), (7, a7), (8, a8), (9, a9), (10, a10), (14, a14), (15, a15), (16, a16), (17, a17)]) []) S Q = s61_0 cf a2 a7 a8 a9 a10 a14 a15 a16 a17 S Q := wpS_of (by kernel_rfl)
def s61_r1 (cf : CallF) (a2 a7 a8 a9 a10 a14 a15 a16 a17 : D) (S : Store) (Q : QT) : Prop :=
  Q .ret (mkf 32 [(2, (.b false)), (7, .top), (8, .top), (9, .top), (10, .top), (14, a14), (15, a15), (16, a16), (17, a17)]) S
theorem e61_r1 (cf : CallF) (a2 a7 a8 a9 a10 a14 a15 a16 a17 : D) (S : Store) (Q : QT) : wp cf c61_r1 (mkf 32 [(2, a2), (7, a7), (8, a8), (9, a9), (10, a10), (14, a14), (15, a15), (16, a16), (17, a17)]) S Q = s61_r1 cf a2 a7 a8 a9 a10 a14 a15 a16 a17 S Q := wpS_of (by kernel_rfl)
def s61_1 (cf : CallF) (a2 a7 a8 a9 a10 a14 a15 a16 a17 : D) (S : Store) (Q : QT) : Prop :=
  OX (binD .lss .num a9 a8) fun x19 =>
  WB x19
  (OX (iaD 2 a7 a9) fun x20 =>
  OX (ldD S 2 true x20) fun x21 =>
  al [.i .i64 0, .sl 11 true [] .ro] S fun x22 S23 =>
  OX (stD S23 2 true x22 x21) fun S25 =>
  OX (faD 1 x22) fun x26 =>
  OX (ldD S25 1 false x26) fun x27 =>
  OX (lenD false x27) fun x28 =>
  W cf (.loop [] c61_0) (mkf 32 [(2, a2), (7, a7), (8, a8), (9, a9), (10, .top), (14, x27), (15, x28), (16, (.i .i64 0)), (17, a17)]) S25 (Qblk 2 (Qblk 1 (QS cf c61_r0 Q))))
  (Q (.exit 0) (mkf 32 [(2, a2), (7, a7), (8, a8), (9, a9), (10, x19), (14, a14), (15, a15), (16, a16), (17, a17)]) S)
theorem e61_1 (cf : CallF) (a2 a7 a8 a9 a10 a14 a15 a16 a17 : D) (S : Store) (Q : QT) : wp cf c61_1 (fkill (mkf 32 [(2, a2), (7, a7), (8, a8), (9, a9), (10, a10), (14, a14), (15, a15), (16, a16), (17, a17)]) []) S Q = s61_1 cf a2 a7 a8 a9 a10 a14 a15 a16 a17 S Q := wpS_of (by kernel_rfl)
def s61 (cf : CallF) (a0 : D) (S : Store) (Post : PT) : Prop :=
  OX (lenD false a0) fun x29 =>
  W cf (.loop [] c61_1) (mkf 32 [(2, .top), (7, a0), (8, x29), (9, (.i .i64 0)), (10, .top), (14, .top), (15, .top), (16, .top), (17, .top)]) S (Qblk 0 (QS cf c61_r1 (FinK [.t 2] Post)))
theorem e61 (cf : CallF) (a0 : D) (S : Store) (Post : PT) : wp cf c61 (frame0 d61 [a0]) S (FinK d61.res Post) = s61 cf a0 S Post := wpS_of (by kernel_rfl)
theorem i61 (a0 : D) (r : D) (ha : noRefL (stripL [a0]) = true) (hr : noRef r = true) (h : s61 (call dp) (strip a0) [] fun d _ => stripT d = r) : isoCall (call dp) 61 [a0] = some r := iso_s (f := d61) rfl ⟨rfl, by decide⟩ ha hr (by rw [← e61] at h; exact h)
/-! slices.ContainsFunc[[]lineage/api.RowID,lineage/api.RowID] -/
def s62 (cf : CallF) (a0 a1 : D) (S : Store) (Post : PT) : Prop :=
  OX (cf 102 [a0, a1] S) fun p2 =>
  OX (binD .geq .num p2.1 (.i .i64 0)) fun x3 =>
  Post x3 p2.2
theorem e62 (cf : CallF) (a0 a1 : D) (S : Store) (Post : PT) : wp cf c62 (frame0 d62 [a0, a1]) S (FinK d62.res Post) = s62 cf a0 a1 S Post := wpS_of (by kernel_rfl)
theorem f62 (a0 a1 : D) (S : Store) (Post : PT) (h : s62 (call dp) a0 a1 S Post) : ∃ r S', call dp 62 [a0, a1] S = some (r, S') ∧ Post r S' := call_s (f := d62) rfl ⟨rfl, by decide⟩ (by rw [← e62] at h; exact h)

/-! slices.IndexFunc[[]lineage/api.RowID,lineage/api.RowID] -/
def s102_r0 (cf : CallF) (a0 a1 a4 a7 a8 a9 : D) (S : Store) (Q : QT) : Prop :=
  Q .ret (mkf 19 [(0, .top), (1, .top), (4, (.i .i64 (-1))), (7, .top), (8, .top), (9, .top)]) S
theorem e102_r0 (cf : CallF) (a0 a1 a4 a7 a8 a9 : D) (S : Store) (Q : QT) : wp cf c102_r0 (mkf 19 [(0, a0), (1, a1), (4, a4), (7, a7), (8, a8), (9, a9)]) S Q = s102_r0 cf a0 a1 a4 a7 a8 a9 S Q := wpS_of (by kernel_rfl)
def s102_0 (cf : CallF) (a0 a1 a4 a7 a8 a9 : D) (S : Store) (Q : QT) : Prop :=
  OX (binD .lss .num a8 a7) fun x1 =>
  WB x1
  (OX (iaD 2 a0 a8) fun x2 =>
  OX (ldD S 2 true x2) fun x3 =>
  OX (fnD a1) fun q5 => OX (cf q5.1 ([x3] ++ q5.2) S) fun p6 =>
  WB p6.1
  (Q .ret (mkf 19 [(0, .top), (1, .top), (4, a8), (7, .top), (8, .top), (9, .top)]) p6.2)
  (OX (binD .add .num a8 (.i .i64 1)) fun x7 =>
  Q .normal (mkf 19 [(0, a0), (1, a1), (4, a4), (7, a7), (8, x7), (9, .top)]) p6.2))
  (Q (.exit 0) (mkf 19 [(0, a0), (1, a1), (4, a4), (7, a7), (8, a8), (9, x1)]) S)
theorem e102_0 (cf : CallF) (a0 a1 a4 a7 a8 a9 : D) (S : Store) (Q : QT) : wp cf c102_0 (fkill (mkf 19 [(0, a0), (1, a1), (4, a4), (7, a7), (8, a8), (9, a9)]) []) S Q = s102_0 cf a0 a1 a4 a7 a8 a9 S Q := wpS_of (by kernel_rfl)
def s102 (cf : CallF) (a0 a1 : D) (S : Store) (Post : PT) : Prop :=
  OX (lenD false a0) fun x8 =>
  W cf (.loop [] c102_0) (mkf 19 [(0, a0), (1, a1), (4, .top), (7, x8), (8, (.i .i64 0)), (9, .top)]) S (Qblk 0 (QS cf c102_r0 (FinK [.t 4] Post)))
theorem e102 (cf : CallF) (a0 a1 : D) (S : Store) (Post : PT) : wp cf c102 (frame0 d102 [a0, a1]) S (FinK d102.res Post) = s102 cf a0 a1 S Post := wpS_of (by kernel_rfl)
theorem f102 (a0 a1 : D) (S : Store) (Post : PT) (h : s102 (call dp) a0 a1 S Post) : ∃ r S', call dp 102 [a0, a1] S = some (r, S') ∧ Post r S' := call_s (f := d102) rfl ⟨rfl, by decide⟩ (by rw [← e102] at h; exact h)

/-! lineage/bdd.Build$1 -/
def s64 (cf : CallF) (a0 a1 : D) (S : Store) (Post : PT) : Prop :=
  bxx 2 true a0 S fun x1 S2 =>
  OX (ldD S2 1 false a1) fun x3 =>
  OX (ldD S2 2 true x1) fun x4 =>
  OX (isoCall cf 65 [x3, x4]) fun x5 =>
  OX (unD .not x5) fun x6 =>
  Post x6 S2
theorem e64 (cf : CallF) (a0 a1 : D) (S : Store) (Post : PT) : wp cf c64 (frame0 d64 [a0, a1]) S (FinK d64.res Post) = s64 cf a0 a1 S Post := wpS_of (by kernel_rfl)
theorem i64 (a0 a1 : D) (r : D) (ha : noRefL (stripL [a0, a1]) = true) (hr : noRef r = true) (h : s64 (call dp) (strip a0) (strip a1) [] fun d _ => stripT d = r) : isoCall (call dp) 64 [a0, a1] = some r := iso_s (f := d64) rfl ⟨rfl, by decide⟩ ha hr (by rw [← e64] at h; exact h)
theorem f64 (a0 a1 : D) (S : Store) (Post : PT) (h : s64 (call dp) a0 a1 S Post) : ∃ r S', call dp 64 [a0, a1] S = some (r, S') ∧ Post r S' := call_s (f := d64) rfl ⟨rfl, by decide⟩ (by rw [← e64] at h; exact h)

/-! (lineage/bdd.builder).sum -/
def s66_r0 (cf : CallF) (a2 a4 a5 a6 a14 a15 a16 a17 : D) (S : Store) (Q : QT) : Prop :=
  OX (ldD S 3 true a6) fun x1 =>
  OX (stD S 3 true a4 x1) fun S3 =>
  Q .ret (mkf 46 [(2, .top), (4, a4), (5, (.i .i64 0)), (6, .top), (14, .top), (15, .top), (16, .top), (17, .top)]) S3
theorem e66_r0 (cf : CallF) (a2 a4 a5 a6 a14 a15 a16 a17 : D) (S : Store) (Q : QT) : wp cf c66_r0 (mkf 46 [(2, a2), (4, a4), (5, a5), (6, a6), (14, a14), (15, a15), (16, a16), (17, a17)]) S Q = s66_r0 cf a2 a4 a5 a6 a14 a15 a16 a17 S Q := wpS_of (by kernel_rfl)
def s66_0 (cf : CallF) (a2 a4 a5 a6 a14 a15 a16 a17 : D) (S : Store) (Q : QT) : Prop :=
  OX (binD .lss .num a16 a15) fun x4 =>
  WB x4
  (OX (iaD 2 a14 a16) fun x5 =>
  OX (ldD S 2 true x5) fun x6 =>
  al [.i .i64 0, .sl 11 true [] .ro] S fun x7 S8 =>
  OX (stD S8 2 true x7 x6) fun S10 =>
  OX (ldD S10 2 true a2) fun x11 =>
  OX (ldD S10 2 true x7) fun x12 =>
  OX (isoCall cf 105 [x11, x12]) fun x13 =>
  OX (extD x13 0) fun x14 =>
  OX (extD x13 1) fun x15 =>
  al [.sl 2 true [] .ro, .sl 3 true [] .ro, .i .i64 0] S10 fun x16 S17 =>
  OX (stD S17 3 true x16 x14) fun S19 =>
  OX (binD .neq .num x15 (.i .i64 0)) fun x20 =>
  WB x20
  (OX (bldV [.sl 2 true [] .ro, .sl 3 true [] .ro, .i .i64 0] []) fun x21 =>
  OX (stD S19 3 true a4 (.agg x21)) fun S23 =>
  Q .ret (mkf 46 [(2, .top), (4, a4), (5, x15), (6, .top), (14, .top), (15, .top), (16, .top), (17, .top)]) S23)
  (OX (ldD S19 2 true a2) fun x24 =>
  OX (ldD S19 3 true a6) fun x25 =>
  OX (ldD S19 3 true x16) fun x26 =>
  OX (isoCall cf 22 [x25, x26]) fun x27 =>
  OX (extD x27 0) fun x28 =>
  OX (extD x27 1) fun x29 =>
  OX (isoCall cf 106 [x24, x28, x29]) fun x30 =>
  OX (extD x30 0) fun x31 =>
  OX (extD x30 1) fun x32 =>
  OX (stD S19 3 true a6 x31) fun S34 =>
  OX (binD .neq .num x32 (.i .i64 0)) fun x35 =>
  WB x35
  (OX (bldV [.sl 2 true [] .ro, .sl 3 true [] .ro, .i .i64 0] []) fun x36 =>
  OX (stD S34 3 true a4 (.agg x36)) fun S38 =>
  Q .ret (mkf 46 [(2, .top), (4, a4), (5, x32), (6, .top), (14, .top), (15, .top), (16, .top), (17, .top)]) S38)
  (OX (binD .add .num a16 (.i .i64 1)) fun x39 =>
  Q .normal (mkf 46 [(2, a2), (4, a4), (5, a5), (6, a6), (14, a14), (15, a15), (16, x39), (17, .top)]) S34)))
  (Q (.exit 0) (mkf 46 [(2, a2), (4, a4), (5, a5), (6, a6), (14, a14), (15, a15), (16, a16), (17, x4)]) S)
theorem e66_0 (cf : CallF) (a2 a4 a5 a6 a14 a15 a16 a17 : D) (S : Store) (Q : QT) : wp cf c66_0 (fkill (mkf 46 [(2, a2), (4, a4), (5, a5), (6, a6), (14, a14), (15, a15), (16, a16), (17, a17)]) []) S Q = s66_0 cf a2 a4 a5 a6 a14 a15 a16 a17 S Q := wpS_of (by kernel_rfl)
def s66 (cf : CallF) (a0 a1 : D) (S : Store) (Post : PT) : Prop :=
  bxx 2 true a0 S fun x40 S41 =>
  al [.sl 2 true [] .ro, .sl 3 true [] .ro, .i .i64 0] S41 fun x42 S43 =>
  OX (faD 0 x40) fun x44 =>
  OX (ldD S43 1 false x44) fun x45 =>
  OX (isoCall cf 13 [x45, (.b false)]) fun x46 =>
  al [.sl 2 true [] .ro, .sl 3 true [] .ro, .i .i64 0] S43 fun x47 S48 =>
  OX (stD S48 3 true x47 x46) fun S50 =>
  OX (lenD false a1) fun x51 =>
  W cf (.loop [] c66_0) (mkf 46 [(2, x40), (4, x42), (5, .top), (6, x47), (14, a1), (15, x51), (16, (.i .i64 0)), (17, .top)]) S50 (Qblk 0 (QS cf c66_r0 (FinK [.cell 4 3 true, .t 5] Post)))
theorem e66 (cf : CallF) (a0 a1 : D) (S : Store) (Post : PT) : wp cf c66 (frame0 d66 [a0, a1]) S (FinK d66.res Post) = s66 cf a0 a1 S Post := wpS_of (by kernel_rfl)
theorem j66 (a0 a1 : D) (Post : D → Prop) (ha : noRefL (stripL [a0, a1]) = true) (hr : ∀ r, Post r → noRef r = true) (h : s66 (call dp) (strip a0) (strip a1) [] fun d _ => Post (stripT d)) : ∃ r, isoCall (call dp) 66 [a0, a1] = some r ∧ Post r := iso_x (f := d66) rfl ⟨rfl, by decide⟩ ha hr (by rw [← e66] at h; exact h)
/-! (lineage/bdd.builder).term -/
def s105_r0 (cf : CallF) (a2 a4 a5 a6 a15 a16 a17 a18 : D) (S : Store) (Q : QT) : Prop :=
  OX (ldD S 3 true a6) fun x1 =>
  OX (stD S 3 true a4 x1) fun S3 =>
  Q .ret (mkf 48 [(2, .top), (4, a4), (5, (.i .i64 0)), (6, .top), (15, .top), (16, .top), (17, .top), (18, .top)]) S3
theorem e105_r0 (cf : CallF) (a2 a4 a5 a6 a15 a16 a17 a18 : D) (S : Store) (Q : QT) : wp cf c105_r0 (mkf 48 [(2, a2), (4, a4), (5, a5), (6, a6), (15, a15), (16, a16), (17, a17), (18, a18)]) S Q = s105_r0 cf a2 a4 a5 a6 a15 a16 a17 a18 S Q := wpS_of (by kernel_rfl)
def s105_0 (cf : CallF) (a2 a4 a5 a6 a15 a16 a17 a18 : D) (S : Store) (Q : QT) : Prop :=
  OX (binD .lss .num a17 a16) fun x4 =>
  WB x4
  (OX (iaD 11 a15 a17) fun x5 =>
  OX (ldD S 11 true x5) fun x6 =>
  al [.i .i64 0, .i .i64 0, .i .i64 0, .sl 1 true [] .ro, .i .i64 0, .sl 4 true [] .ro, .i .i64 0, .i .i64 0, .i .i64 0, .s [], .i .i64 0] S fun x7 S8 =>
  OX (stD S8 11 true x7 x6) fun S10 =>
  OX (ldD S10 2 true a2) fun x11 =>
  OX (faD 0 x7) fun x12 =>
  OX (ldD S10 10 true x12) fun x13 =>
  OX (isoCall cf 160 [x11, x13]) fun x14 =>
  OX (extD x14 0) fun x15 =>
  OX (extD x14 1) fun x16 =>
  al [.sl 2 true [] .ro, .sl 3 true [] .ro, .i .i64 0] S10 fun x17 S18 =>
  OX (stD S18 3 true x17 x15) fun S20 =>
  OX (binD .neq .num x16 (.i .i64 0)) fun x21 =>
  WB x21
  (OX (bldV [.sl 2 true [] .ro, .sl 3 true [] .ro, .i .i64 0] []) fun x22 =>
  OX (stD S20 3 true a4 (.agg x22)) fun S24 =>
  Q .ret (mkf 48 [(2, .top), (4, a4), (5, x16), (6, .top), (15, .top), (16, .top), (17, .top), (18, .top)]) S24)
  (OX (ldD S20 2 true a2) fun x25 =>
  OX (ldD S20 3 true a6) fun x26 =>
  OX (ldD S20 3 true x17) fun x27 =>
  OX (isoCall cf 21 [x26, x27]) fun x28 =>
  OX (extD x28 0) fun x29 =>
  OX (extD x28 1) fun x30 =>
  OX (isoCall cf 106 [x25, x29, x30]) fun x31 =>
  OX (extD x31 0) fun x32 =>
  OX (extD x31 1) fun x33 =>
  OX (stD S20 3 true a6 x32) fun S35 =>
  OX (binD .neq .num x33 (.i .i64 0)) fun x36 =>
  WB x36
  (OX (bldV [.sl 2 true [] .ro, .sl 3 true [] .ro, .i .i64 0] []) fun x37 =>
  OX (stD S35 3 true a4 (.agg x37)) fun S39 =>
  Q .ret (mkf 48 [(2, .top), (4, a4), (5, x33), (6, .top), (15, .top), (16, .top), (17, .top), (18, .top)]) S39)
  (OX (binD .add .num a17 (.i .i64 1)) fun x40 =>
  Q .normal (mkf 48 [(2, a2), (4, a4), (5, a5), (6, a6), (15, a15), (16, a16), (17, x40), (18, .top)]) S35)))
  (Q (.exit 0) (mkf 48 [(2, a2), (4, a4), (5, a5), (6, a6), (15, a15), (16, a16), (17, a17), (18, x4)]) S)
theorem e105_0 (cf : CallF) (a2 a4 a5 a6 a15 a16 a17 a18 : D) (S : Store) (Q : QT) : wp cf c105_0 (fkill (mkf 48 [(2, a2), (4, a4), (5, a5), (6, a6), (15, a15), (16, a16), (17, a17), (18, a18)]) []) S Q = s105_0 cf a2 a4 a5 a6 a15 a16 a17 a18 S Q := wpS_of (by kernel_rfl)
def s105 (cf : CallF) (a0 a1 : D) (S : Store) (Post : PT) : Prop :=
  bxx 2 true a0 S fun x41 S42 =>
  bxx 2 true a1 S42 fun x43 S44 =>
  al [.sl 2 true [] .ro, .sl 3 true [] .ro, .i .i64 0] S44 fun x45 S46 =>
  OX (faD 0 x41) fun x47 =>
  OX (ldD S46 1 false x47) fun x48 =>
  OX (isoCall cf 13 [x48, (.b true)]) fun x49 =>
  al [.sl 2 true [] .ro, .sl 3 true [] .ro, .i .i64 0] S46 fun x50 S51 =>
  OX (stD S51 3 true x50 x49) fun S53 =>
  OX (faD 1 x43) fun x54 =>
  OX (ldD S53 1 false x54) fun x55 =>
  OX (lenD false x55) fun x56 =>
  W cf (.loop [] c105_0) (mkf 48 [(2, x41), (4, x45), (5, .top), (6, x50), (15, x55), (16, x56), (17, (.i .i64 0)), (18, .top)]) S53 (Qblk 0 (QS cf c105_r0 (FinK [.cell 4 3 true, .t 5] Post)))
theorem e105 (cf : CallF) (a0 a1 : D) (S : Store) (Post : PT) : wp cf c105 (frame0 d105 [a0, a1]) S (FinK d105.res Post) = s105 cf a0 a1 S Post := wpS_of (by kernel_rfl)
theorem j105 (a0 a1 : D) (Post : D → Prop) (ha : noRefL (stripL [a0, a1]) = true) (hr : ∀ r, Post r → noRef r = true) (h : s105 (call dp) (strip a0) (strip a1) [] fun d _ => Post (stripT d)) : ∃ r, isoCall (call dp) 105 [a0, a1] = some r ∧ Post r := iso_x (f := d105) rfl ⟨rfl, by decide⟩ ha hr (by rw [← e105] at h; exact h)
/-! (lineage/bdd.builder).limited -/
def s106 (cf : CallF) (a0 a1 a2 : D) (S : Store) (Post : PT) : Prop :=
  bxx 2 true a0 S fun x1 S2 =>
  bxx 3 true a1 S2 fun x3 S4 =>
  al [.sl 2 true [] .ro, .sl 3 true [] .ro, .i .i64 0] S4 fun x5 S6 =>
  OX (binD .eql .num a2 (.i .i64 0)) fun x7 =>
  OX (gsel x7 true (faD 1 x3)) fun x8 =>
  OX (gsel x7 true (ldD S6 1 false x8)) fun x9 =>
  OX (gsel x7 true (lenD false x9)) fun x10 =>
  OX (gsel x7 true (faD 1 x1)) fun x11 =>
  OX (gsel x7 true (ldD S6 1 false x11)) fun x12 =>
  OX (gsel x7 true (binD .gtr .num x10 x12)) fun x13 =>
  OX (pickD x7 x13 (.b false)) fun x14 =>
  WB x14
  (OX (bldV [.sl 2 true [] .ro, .sl 3 true [] .ro, .i .i64 0] []) fun x15 =>
  OX (stD S6 3 true x5 (.agg x15)) fun S17 =>
  OX (ldc S17 3 true x5) fun x18 => Post (.tup [x18, (.i .i64 6)]) S17)
  (OX (ldD S6 3 true x3) fun x19 =>
  OX (stD S6 3 true x5 x19) fun S21 =>
  OX (ldc S21 3 true x5) fun x22 => Post (.tup [x22, a2]) S21)
theorem e106 (cf : CallF) (a0 a1 a2 : D) (S : Store) (Post : PT) : wp cf c106 (frame0 d106 [a0, a1, a2]) S (FinK d106.res Post) = s106 cf a0 a1 a2 S Post := wpS_of (by kernel_rfl)
theorem i106 (a0 a1 a2 : D) (r : D) (ha : noRefL (stripL [a0, a1, a2]) = true) (hr : noRef r = true) (h : s106 (call dp) (strip a0) (strip a1) (strip a2) [] fun d _ => stripT d = r) : isoCall (call dp) 106 [a0, a1, a2] = some r := iso_s (f := d106) rfl ⟨rfl, by decide⟩ ha hr (by rw [← e106] at h; exact h)
/-! (lineage/bdd.builder).atom -/
def s160 (cf : CallF) (a0 a1 : D) (S : Store) (Post : PT) : Prop :=
  bxx 2 true a0 S fun x1 S2 =>
  bxx 10 true a1 S2 fun x3 S4 =>
  al [.sl 2 true [] .ro, .sl 3 true [] .ro, .i .i64 0] S4 fun x5 S6 =>
  OX (faD 0 x3) fun x7 =>
  OX (ldD S6 1 false x7) fun x8 =>
  OX (binD .eql .num x8 (.i .i64 0)) fun x9 =>
  WB x9
  (OX (faD 0 x1) fun x10 =>
  OX (ldD S6 1 false x10) fun x11 =>
  OX (faD 1 x3) fun x12 =>
  OX (ldD S6 2 true x12) fun x13 =>
  OX (isoCall cf 14 [x11, x13]) fun x14 =>
  OX (extD x14 0) fun x15 =>
  OX (extD x14 1) fun x16 =>
  OX (stD S6 3 true x5 x15) fun S18 =>
  OX (ldc S18 3 true x5) fun x19 => Post (.tup [x19, x16]) S18)
  (OX (ldD S6 2 true x1) fun x20 =>
  OX (faD 3 x3) fun x21 =>
  OX (ldD S6 1 false x21) fun x22 =>
  OX (iaD 1 x22 (.i .i64 0)) fun x23 =>
  OX (ldD S6 1 false x23) fun x24 =>
  OX (isoCall cf 66 [x20, x24]) fun x25 =>
  OX (extD x25 0) fun x26 =>
  OX (extD x25 1) fun x27 =>
  al [.sl 2 true [] .ro, .sl 3 true [] .ro, .i .i64 0] S6 fun x28 S29 =>
  OX (ldD S29 2 true x1) fun x30 => deq x30 x20 = true ∧
  (OX (ldD S29 1 false x21) fun x31 => deq x31 x22 = true ∧
  (OX (ldD S29 1 false x23) fun x32 => deq x32 x24 = true ∧
  (OX (stD S29 3 true x28 x26) fun S34 =>
  OX (binD .neq .num x27 (.i .i64 0)) fun x35 =>
  OX (gsel x35 false (faD 0 x3)) fun x36 =>
  OX (gsel x35 false (ldD S34 1 false x36)) fun x37 =>
  OX (gsel x35 false (binD .eql .num x37 (.i .i64 2))) fun x38 =>
  OX (pickD x35 (.b true) x38) fun x39 =>
  WB x39
  (OX (ldD S34 3 true x28) fun x40 =>
  OX (stD S34 3 true x5 x40) fun S42 =>
  OX (ldc S42 3 true x5) fun x43 => Post (.tup [x43, x27]) S42)
  (OX (faD 0 x3) fun x44 =>
  OX (ldD S34 1 false x44) fun x45 =>
  OX (binD .eql .num x45 (.i .i64 3)) fun x46 =>
  WB x46
  (OX (ldD S34 3 true x28) fun x47 =>
  OX (isoCall cf 23 [x47]) fun x48 =>
  OX (stD S34 3 true x5 x48) fun S50 =>
  OX (ldc S50 3 true x5) fun x51 => Post (.tup [x51, (.i .i64 0)]) S50)
  (OX (ldD S34 2 true x1) fun x52 =>
  OX (faD 3 x3) fun x53 =>
  OX (ldD S34 1 false x53) fun x54 =>
  OX (iaD 1 x54 (.i .i64 1)) fun x55 =>
  OX (ldD S34 1 false x55) fun x56 =>
  OX (isoCall cf 66 [x52, x56]) fun x57 =>
  OX (extD x57 0) fun x58 =>
  OX (extD x57 1) fun x59 =>
  al [.sl 2 true [] .ro, .sl 3 true [] .ro, .i .i64 0] S34 fun x60 S61 =>
  OX (ldD S61 2 true x1) fun x62 => deq x62 x52 = true ∧
  (OX (ldD S61 1 false x53) fun x63 => deq x63 x54 = true ∧
  (OX (ldD S61 1 false x55) fun x64 => deq x64 x56 = true ∧
  (OX (stD S61 3 true x60 x58) fun S66 =>
  OX (binD .neq .num x59 (.i .i64 0)) fun x67 =>
  WB x67
  (OX (bldV [.sl 2 true [] .ro, .sl 3 true [] .ro, .i .i64 0] []) fun x68 =>
  OX (stD S66 3 true x5 (.agg x68)) fun S70 =>
  OX (ldc S70 3 true x5) fun x71 => Post (.tup [x71, x59]) S70)
  (OX (ldD S66 2 true x1) fun x72 =>
  OX (ldD S66 3 true x28) fun x73 =>
  OX (ldD S66 3 true x60) fun x74 =>
  OX (isoCall cf 23 [x74]) fun x75 =>
  OX (isoCall cf 21 [x73, x75]) fun x76 =>
  OX (extD x76 0) fun x77 =>
  OX (extD x76 1) fun x78 =>
  OX (isoCall cf 106 [x72, x77, x78]) fun x79 =>
  OX (extD x79 0) fun x80 =>
  OX (extD x79 1) fun x81 =>
  OX (stD S66 3 true x5 x80) fun S83 =>
  OX (ldc S83 3 true x5) fun x84 => Post (.tup [x84, x81]) S83))))))))))
theorem e160 (cf : CallF) (a0 a1 : D) (S : Store) (Post : PT) : wp cf c160 (frame0 d160 [a0, a1]) S (FinK d160.res Post) = s160 cf a0 a1 S Post := wpS_of (by kernel_rfl)
theorem j160 (a0 a1 : D) (Post : D → Prop) (ha : noRefL (stripL [a0, a1]) = true) (hr : ∀ r, Post r → noRef r = true) (h : s160 (call dp) (strip a0) (strip a1) [] fun d _ => Post (stripT d)) : ∃ r, isoCall (call dp) 160 [a0, a1] = some r ∧ Post r := iso_x (f := d160) rfl ⟨rfl, by decide⟩ ha hr (by rw [← e160] at h; exact h)
end Go.Proofs.YtjlmeikcfdanmaaGreatDoor.DE

namespace Go.Proofs.YtjlmeikcfdanmaaGreatDoor.DE.V
open Go BT
set_option linter.unusedSimpArgs false
set_option linter.unusedVariables false

def emA : (n : Nat) → Ann n → Bool
  | 0, x => nomatch x
  | _ + 1, x => decide (x.ts.length = 0)
def isCA : (n : Nat) → Ann n → Bool
  | 0, x => nomatch x
  | _ + 1, x => isC x
def isUA : (n : Nat) → Ann n → Bool
  | 0, x => nomatch x
  | _ + 1, x => isU x
def hasCA : (n : Nat) → Ann n → Bool
  | 0, x => nomatch x
  | _ + 1, x => hasC x
noncomputable def validAnn : (n : Nat) → Ann n → Bool
  | 0, x => nomatch x
  | n + 1, x => vAn ⟨validAnn n, emA n, isCA n, isUA n, hasCA n, cmpAnn n⟩ (eAnn n) x
noncomputable def prm (n : Nat) : Prm (Ann n) := ⟨validAnn n, emA n, isCA n, isUA n, hasCA n, cmpAnn n⟩

theorem prmOk : ∀ n, PrmOk (eAnn n) (OkAnn n) (prm n)
  | 0 => ⟨GE_eAnn 0, (fun a => nomatch a), (fun a => nomatch a), (fun a => nomatch a), (fun a => nomatch a), (fun a => nomatch a), (fun a => nomatch a), (fun a => nomatch a)⟩
  | n + 1 => {
      he := GE_eAnn (n + 1)
      len := fun a => ⟨a.ts.length, lenD_eAn (eAnn n) a, rfl⟩
      V := fun a h => v60s (prmOk n) (v136t (n + 1)) (v135t (n + 1)) a h
      isC := fun a => v152 (GE_eAnn n) a
      isU := fun a => v153 (GE_eAnn n) a
      hasC := fun a h => v154 (GE_eAnn n) a (OkAn.len h)
      c := v146 (n + 1)
      eq := fun a b h => v151 (n + 1) a b h }

noncomputable def validS (p : SA) : Bool := validAnn p.1 p.2
theorem v60S (p : SA) (h : okS p) : isoCall (call dp) 60 [eS p] = some (.b (validS p)) := (prmOk p.1).V p.2 h

/-! Tests. -/
section
variable {α : Type}
def teFc (T : α → Bool) (f : Fc α) : Bool := decide (f.kind = 4) || f.args.any T
def teTm (T : α → Bool) (t : Tm α) : Bool := t.fs.any (teFc T)
def teAn (T : α → Bool) (x : An α) : Bool := x.ts.any (teTm T)
end
def teAnn : (n : Nat) → Ann n → Bool
  | 0, x => nomatch x
  | n + 1, x => teAn (teAnn n) x

def Tsts {α : Type} (e : α → D) (ok : α → Prop) (T : α → Bool) : Prop := ∀ a, ok a → isoCall (call dp) 61 [e a] = some (.b (T a))

set_option maxHeartbeats 1000000 in
theorem v61s {α : Type} {e : α → D} {ok : α → Prop} {T : α → Bool} (he : GE e) (H : Tsts e ok T) : Tsts (eAn e) (OkAn ok) (teAn T) := by
  intro x hx
  have hxl := hx.len
  apply i61 _ _ (by simp [noRefL, noRef_eAn he]) rfl
  simp [s61]
  let J : Nat → List D → Store → Prop := fun q fr S => ∃ k b2 b10 b14 b15 b16 b17, fr = mkf 32 [(2, b2), (7, eAn e x), (8, .i .i64 x.ts.length), (9, .i .i64 (k : Nat)), (10, b10), (14, b14), (15, b15), (16, b16), (17, b17)] ∧ k + q = x.ts.length ∧ teAn T x = (x.ts.drop k).any (teTm T)
  refine W_loop J ?_ x.ts.length _ _ ⟨0, _, _, _, _, _, _, rfl, by simp, rfl⟩
  intro q fr S hJ; obtain ⟨k, b2, b10, b14, b15, b16, b17, hfr, hk, hv⟩ := hJ; rw [hfr]
  rw [← wp_W, e61_1]
  simp [s61_1]
  split
  · rename_i h
    obtain ⟨t, ht⟩ := get_lt (l := x.ts) (k := k) (by omega)
    have hot := hx.ts t (List.mem_of_getElem? ht)
    have htl := hot.len
    rw [drop_get ht, List.any_cons] at hv
    simp [iaD_eAn e _ ht]
    let J2 : Nat → List D → Store → Prop := fun q fr S => ∃ i b2 b10 b17, fr = mkf 32 [(2, b2), (7, eAn e x), (8, .i .i64 x.ts.length), (9, .i .i64 (k : Nat)), (10, b10), (14, eFcs e t.nl t.fs), (15, .i .i64 t.fs.length), (16, .i .i64 (i : Nat)), (17, b17)] ∧ i + q = t.fs.length ∧ teTm T t = (t.fs.drop i).any (teFc T)
    refine W_loop J2 ?_ t.fs.length _ _ ⟨0, _, _, _, rfl, by simp, rfl⟩
    intro q2 fr S hJ; obtain ⟨i, b2, b10, b17, hfr, hi, hv2⟩ := hJ; rw [hfr]
    rw [← wp_W, e61_0]
    simp [s61_0]
    split
    · rename_i h2
      obtain ⟨f, hf⟩ := get_lt (l := t.fs) (k := i) (by omega)
      have hof := hot.fs f (List.mem_of_getElem? hf)
      rw [drop_get hf, List.any_cons] at hv2
      have hA := v101 he T 61 f.anl f.args hof.alen fun a ha => H a (hof.args a ha)
      have hfc : teFc T f = (decide (f.kind = 4) || f.args.any T) := rfl
      generalize f.args.any T = A at *
      simp [iaD_eFcs e _ hf]
      by_cases k4 : f.kind = 4
      · simp only [hfc, k4, decide_true, Bool.true_or] at hv2
        rw [hv2, Bool.true_or] at hv
        simp [k4, hv]
      · cases A with
        | true =>
          simp only [hfc, k4, decide_false, Bool.false_or, Bool.true_or] at hv2
          rw [hv2, Bool.true_or] at hv
          simp [k4, hA, hv]
        | false =>
          simp only [hfc, k4, decide_false, Bool.or_self, Bool.false_or] at hv2
          simp [k4, hA]
          rw [wrapL (k := i) h2 htl]
          exact ⟨q2 - 1, by omega, ⟨i + 1, _, _, _, rfl, by omega, hv2⟩⟩
    · rename_i h2
      rw [List.drop_eq_nil_of_le (show t.fs.length ≤ i by omega), List.any_nil] at hv2
      rw [hv2, Bool.false_or] at hv
      simp [e61_r0, s61_r0]
      rw [wrapL (k := k) h hxl]
      exact ⟨q - 1, by omega, ⟨k + 1, _, _, _, _, _, _, rfl, by omega, hv⟩⟩
  · rename_i h
    rw [List.drop_eq_nil_of_le (show x.ts.length ≤ k by omega), List.any_nil] at hv
    simp [e61_r1, s61_r1, hv]

theorem v61 : ∀ n, Tsts (eAnn n) (OkAnn n) (teAnn n)
  | 0 => fun x => nomatch x
  | n + 1 => v61s (GE_eAnn n) (v61 n)

end Go.Proofs.YtjlmeikcfdanmaaGreatDoor.DE.V

namespace Go.Proofs.YtjlmeikcfdanmaaGreatDoor.DE.V
open Go Go.ChangeShapes Go.WideShapes Go.RowKit
set_option maxRecDepth 100000
set_option linter.unusedVariables false
set_option linter.unusedSimpArgs false

theorem list_of {α : Type} {p : Nat → α → Prop} : ∀ n, (∀ i, i < n → ∃ x, p i x) → ∃ l : List α, l.length = n ∧ ∀ i x, l[i]? = some x → p i x
  | 0, _ => ⟨[], rfl, fun _ _ h => by simp at h⟩
  | n + 1, h => by
    obtain ⟨l, h1, h2⟩ := list_of n fun i hi => h i (by omega)
    obtain ⟨x, hx⟩ := h n (by omega)
    refine ⟨l ++ [x], by simp [h1], fun i y hy => ?_⟩
    rw [List.getElem?_append] at hy
    split at hy
    · exact h2 i y hy
    · rename_i hlt
      have : i = l.length := by
        have := (List.getElem?_eq_some_iff.1 hy).1
        simp at this; omega
      subst this
      simp at hy; subst hy; rw [h1]; exact hx

/-- Cells and what they say. -/
def RelL (dp : Nat → Option Fn) (w : World) (cs : List Value) (ds : List D) : Prop := cs.length = ds.length ∧ ∀ (m : Nat) (v : Value) (d : D), cs[m]? = some v → ds[m]? = some d → v.oneCell' = true ∧ Rel dp (there w) [] w v d

section
variable {dp : Nat → Option Fn} {w : World}
theorem RelL.nil : RelL dp w [] [] := ⟨rfl, fun _ _ _ h => by simp at h⟩
theorem RelL.cons {v : Value} {d : D} {cs : List Value} {ds : List D} (h1 : v.oneCell' = true) (h2 : Rel dp (there w) [] w v d) (h : RelL dp w cs ds) : RelL dp w (v :: cs) (d :: ds) :=
  ⟨by simp [h.1], fun m u e hu he => by
    match m with
    | 0 => simp at hu he; subst hu he; exact ⟨h1, h2⟩
    | m + 1 => exact h.2 m u e (by simpa using hu) (by simpa using he)⟩
theorem RelL.app {cs cs' : List Value} {ds ds' : List D} (h : RelL dp w cs ds) (h' : RelL dp w cs' ds') : RelL dp w (cs ++ cs') (ds ++ ds') := by
  refine ⟨by simp [h.1, h'.1], fun m u e hu he => ?_⟩
  rw [List.getElem?_append] at hu he
  rw [h.1] at hu
  split at hu
  · rename_i hlt
    rw [if_pos hlt] at he
    exact h.2 m u e hu he
  · rename_i hlt
    rw [if_neg hlt] at he
    exact h'.2 _ u e hu he

variable {H : Type} {enc : TypeId × Value → H} {base : Nat} {spare : Nat → Bool} {held : Bool} {fuel : Nat} {cs : List Value} {x : DataW H × List MemPlace}

theorem rd_sliceG {t e k : Nat} {α : Type} (en : α → List D) (P : α → Prop) (ht : Tryz.prog.underlying t = some (.slice e)) (hk : Tryz.prog.cellsOf e = k) (hk0 : 0 < k) (hen : ∀ a, (en a).length = k)
    (helem : ∀ (n : Nat) (cs : List Value) (x : DataW H × List MemPlace), n < fuel → DataW.trod enc Tryz.prog w base spare held n e cs = some x → ∃ a, P a ∧ RelL dp w cs (en a))
    (h : DataW.trod enc Tryz.prog w base spare held fuel t cs = some x) :
    ∃ nl l v, (nl = true → l = []) ∧ (∀ a ∈ l, P a) ∧ l.length ≤ maxLen ∧ cs = [v] ∧ v.oneCell' = true ∧ Rel dp (there w) [] w v (.sl k nl (l.map en) .ro) := by
  rcases DataW.trod_slice ht h with ⟨rfl, _⟩ | ⟨a, len, cap, elems, rest, n, rfl, rfl, _, hb, hl, hm, hel, hx, _, _⟩
  · exact ⟨true, [], _, fun _ => rfl, fun _ h => by (cases h), Nat.zero_le _, rfl, rfl, .nil k .ro⟩
  · obtain ⟨l, hll, hl2⟩ := list_of (α := List Value × α) (p := fun i y => w.cells? base (a.add (i * k)) k = some y.1 ∧ P y.2 ∧ RelL dp w y.1 (en y.2)) len (fun i hi => by
      have h1 := hx i hi
      rw [hk] at h1
      obtain ⟨y, hy⟩ : ∃ y, elems[i]? = some y := ⟨_, List.getElem?_eq_getElem (by omega)⟩
      rw [hy] at h1
      cases hc : w.cells? base (a.add (i * k)) k with
      | none => rw [hc] at h1; cases h1
      | some cs' =>
        rw [hc] at h1
        obtain ⟨z, p1, p2⟩ := helem n cs' y (Nat.lt_succ_self n) h1
        exact ⟨(cs', z), rfl, p1, p2⟩)
    refine ⟨false, l.map (·.2), _, fun h => by (cases h), ?_, by simp; omega, rfl, rfl, ?_⟩
    · intro y hy
      obtain ⟨z, hz, rfl⟩ := List.mem_map.1 hy
      obtain ⟨i, hi⟩ := List.mem_iff_getElem?.1 hz
      exact (hl2 i z hi).2.1
    · rcases Nat.eq_zero_or_pos len with h0 | h0
      · subst h0
        have : l = [] := List.length_eq_zero_iff.1 hll
        subst this
        exact .emp k a cap
      · obtain ⟨blk, off, spot⟩ := a
        have hspot : spot = none := by
          obtain ⟨z, hz⟩ : ∃ z, l[0]? = some z := ⟨_, List.getElem?_eq_getElem (by omega)⟩
          obtain ⟨h1, _⟩ := hl2 0 z hz
          obtain ⟨_, hlen, h3⟩ := World.cells?_some h1
          have := h3 0 hk0
          have hz0 : z.1[0]? ≠ none := by
            intro hn
            rw [List.getElem?_eq_none_iff] at hn
            omega
          simp only [Nat.zero_mul, Addr.add, if_true] at this
          cases spot with
          | none => rfl
          | some b =>
            exfalso
            apply hz0
            rw [← this]
            unfold World.cell?
            split <;> simp_all
        subst hspot
        have hadd : ∀ i j, ((Addr.mk blk off none).add i).add j = ⟨blk, off + i + j, none⟩ := by
          intro i j
          unfold Addr.add
          by_cases hi : i = 0 <;> by_cases hj : j = 0 <;> simp [hi, hj, Nat.add_assoc]
        have hcell : ∀ i z, l[i]? = some z → ∀ j, j < k → w.cell? ⟨blk, off + i * k + j, none⟩ = z.1[j]? := by
          intro i z hz j hj
          obtain ⟨h1, _⟩ := hl2 i z hz
          obtain ⟨_, _, h3⟩ := World.cells?_some h1
          have := h3 j hj
          rwa [hadd] at this
        have hget : ∀ (j : Nat) (y : List D), ((l.map (·.2)).map en)[j]? = some y → ∃ z, l[j]? = some z ∧ y = en z.2 := by
          intro j y hj
          rw [List.getElem?_map, List.getElem?_map] at hj
          cases hz : l[j]? with
          | none => rw [hz] at hj; simp at hj
          | some z => rw [hz] at hj; simp at hj; exact ⟨z, rfl, hj.symm⟩
        have key := Rel.sl (dp := dp) (F := there w) (G := []) (w := w) k ((l.map (·.2)).map en) .ro blk off cap (fun j m => ((l[j]?).bind fun z => z.1[m]?).getD .nilIface)
          (by
            intro y hy
            obtain ⟨z, _, rfl⟩ := List.mem_map.1 hy
            exact hen _) (by simp; omega)
          (by
            intro j y m d hj hd
            obtain ⟨z, hz, rfl⟩ := hget j y hj
            have hmk : m < k := by
              have := (List.getElem?_eq_some_iff.1 hd).1
              rwa [hen] at this
            obtain ⟨_, _, hr⟩ := hl2 j z hz
            obtain ⟨v, hv⟩ : ∃ v, z.1[m]? = some v := ⟨_, List.getElem?_eq_getElem (by rw [hr.1, hen]; exact hmk)⟩
            have hc := hcell j z hz m hmk
            rw [hv] at hc
            simp only [hz, Option.bind_some, hv, Option.getD_some]
            exact ⟨⟨v, hc⟩, hc, (hr.2 m v d hv hd).1⟩)
          (by
            intro j y m d hj hd
            obtain ⟨z, hz, rfl⟩ := hget j y hj
            have hmk : m < k := by
              have := (List.getElem?_eq_some_iff.1 hd).1
              rwa [hen] at this
            obtain ⟨_, _, hr⟩ := hl2 j z hz
            obtain ⟨v, hv⟩ : ∃ v, z.1[m]? = some v := ⟨_, List.getElem?_eq_getElem (by rw [hr.1, hen]; exact hmk)⟩
            simp only [hz, Option.bind_some, hv, Option.getD_some]
            exact (hr.2 m v d hv hd).2)
          trivial
        have hlen : ((l.map (·.2)).map en).length = len := by simp [hll]
        rw [hlen] at key
        exact key

theorem cells2 : Tryz.prog.cellsOf 2 = 1 := by kernel_rfl
theorem cells9 : Tryz.prog.cellsOf 9 = 1 := by kernel_rfl
theorem cells49 : Tryz.prog.cellsOf 49 = 1 := by kernel_rfl
theorem cells85 : Tryz.prog.cellsOf 85 = 1 := by kernel_rfl
theorem cells111 : Tryz.prog.cellsOf 111 = 1 := by kernel_rfl
theorem cells113 : Tryz.prog.cellsOf 113 = 2 := by kernel_rfl
theorem cells115 : Tryz.prog.cellsOf 115 = 1 := by kernel_rfl
theorem cells117 : Tryz.prog.cellsOf 117 = 3 := by kernel_rfl
theorem cells119 : Tryz.prog.cellsOf 119 = 10 := by kernel_rfl
theorem cells121 : Tryz.prog.cellsOf 121 = 11 := by kernel_rfl
theorem cells139 : Tryz.prog.cellsOf 139 = 4 := by kernel_rfl

theorem rd_int2 (h : DataW.trod enc Tryz.prog w base spare held fuel 2 cs = some x) : ∃ n, cs = [.int .i64 n] ∧ in64 n := by
  obtain ⟨n, h1, _, h2⟩ := DataW.trod_int Tryz.underlying2 h
  exact ⟨n, h1, wf64 h2⟩

theorem rd_str (h : DataW.trod enc Tryz.prog w base spare held fuel 9 cs = some x) : ∃ l : List UInt8, Len63 l.length ∧ RelL dp w cs [.s l] := by
  obtain ⟨s, rfl, _, h2⟩ := DataW.trod_string Tryz.underlying9 h
  refine ⟨s.data.toList, by simpa [maxLen] using h2, RelL.cons rfl ?_ RelL.nil⟩
  have := Rel.s (dp := dp) (F := there w) (G := []) (w := w) s.data.toList
  simpa using this

theorem rd_vl (h : DataW.trod enc Tryz.prog w base spare held fuel 117 cs = some x) : ∃ v : Vl, okVl v ∧ RelL dp w cs (eVl v) := by
  obtain ⟨y0, y1, y2, n, _, hl, h0, h1, h2⟩ := Go.Deep.trod_struct3 Tryz.underlying117 h
  rw [cells117] at hl
  simp only [cells3, cells2, cells9] at h0 h1 h2
  match cs, hl with
  | [a, b, c], _ =>
    obtain ⟨n0, e0, w0⟩ := rd_int h0
    obtain ⟨n1, e1, w1⟩ := rd_int2 h1
    obtain ⟨l, k2, r2⟩ := rd_str (dp := dp) h2
    simp at e0 e1 r2
    subst e0 e1
    exact ⟨⟨n0, n1, l⟩, ⟨w0, w1, k2⟩, RelL.cons rfl (.i _ _) (RelL.cons rfl (.i _ _) r2)⟩

theorem rd_rowL (h : DataW.trod enc Tryz.prog w base spare held fuel 27 cs = some x) : ∃ r : Row, okRow r ∧ RelL dp w cs (eRow r) := by
  obtain ⟨r, rfl, k⟩ := rd_row h
  exact ⟨r, k, rfl, fun m v d h1 h2 => rel_row r m v d h1 h2⟩

variable {F : Nat} {α : Type} {e : α → D} {ok : α → Prop}

/-- Nested annotations are read. -/
def Rds (enc : TypeId × Value → H) (dp : Nat → Option Fn) (w : World) (base : Nat) (spare : Nat → Bool) (held : Bool) (F : Nat) (e : α → D) (ok : α → Prop) : Prop :=
  ∀ n cs x, n ≤ F → DataW.trod enc Tryz.prog w base spare held n 49 cs = some x → ∃ a : α, ok a ∧ ∃ v, cs = [v] ∧ v.oneCell' = true ∧ Rel dp (there w) [] w v (e a)

theorem rd_item (HA : Rds enc dp w base spare held F e ok) (hF : fuel ≤ F + 1) (h : DataW.trod enc Tryz.prog w base spare held fuel 139 cs = some x) : ∃ p : Vl × α, (okVl p.1 ∧ ok p.2) ∧ RelL dp w cs (eIt e p) := by
  obtain ⟨xs, n, rfl, _, hl, hxl, hf⟩ := DataW.trod_struct Tryz.underlying139 h
  rw [cells139] at hl
  obtain ⟨y0, hy0⟩ : ∃ y, xs[0]? = some y := ⟨_, List.getElem?_eq_getElem (by rw [hxl]; decide)⟩
  obtain ⟨y1, hy1⟩ : ∃ y, xs[1]? = some y := ⟨_, List.getElem?_eq_getElem (by rw [hxl]; decide)⟩
  have h0 : DataW.trod enc Tryz.prog w base spare held n 117 ((cs.drop 0).take (Tryz.prog.cellsOf 117)) = xs[0]? := hf 0 _ rfl
  have h1 : DataW.trod enc Tryz.prog w base spare held n 49 ((cs.drop 3).take (Tryz.prog.cellsOf 49)) = xs[1]? := hf 1 _ rfl
  rw [hy0] at h0; rw [hy1] at h1
  simp only [cells117, cells49] at h0 h1
  match cs, hl with
  | [a, b, c, d], _ =>
    obtain ⟨v, kv, rv⟩ := rd_vl (dp := dp) h0
    obtain ⟨z, kz, u, eu, ou, ru⟩ := HA _ _ _ (by omega) h1
    simp at eu rv
    subst eu
    exact ⟨(v, z), ⟨kv, kz⟩, RelL.app rv (RelL.cons ou ru RelL.nil)⟩

theorem rd_atom (HA : Rds enc dp w base spare held F e ok) (hF : fuel ≤ F + 1) (h : DataW.trod enc Tryz.prog w base spare held fuel 119 cs = some x) (ex : Int) (hex : in64 ex) : ∃ f : Fc α, f.exp = ex ∧ OkFc ok f ∧ RelL dp w cs (eAt e f) := by
  obtain ⟨xs, n, rfl, _, hl, hxl, hf⟩ := DataW.trod_struct Tryz.underlying119 h
  rw [cells119] at hl
  have hy : ∀ i, i < 7 → ∃ y, xs[i]? = some y := fun i hi => ⟨_, List.getElem?_eq_getElem (by rw [hxl]; exact hi)⟩
  obtain ⟨y0, hy0⟩ := hy 0 (by omega)
  obtain ⟨y1, hy1⟩ := hy 1 (by omega)
  obtain ⟨y2, hy2⟩ := hy 2 (by omega)
  obtain ⟨y3, hy3⟩ := hy 3 (by omega)
  obtain ⟨y4, hy4⟩ := hy 4 (by omega)
  obtain ⟨y5, hy5⟩ := hy 5 (by omega)
  obtain ⟨y6, hy6⟩ := hy 6 (by omega)
  have h0 : DataW.trod enc Tryz.prog w base spare held n 3 ((cs.drop 0).take (Tryz.prog.cellsOf 3)) = xs[0]? := hf 0 _ rfl
  have h1 : DataW.trod enc Tryz.prog w base spare held n 27 ((cs.drop 1).take (Tryz.prog.cellsOf 27)) = xs[1]? := hf 1 _ rfl
  have h2 : DataW.trod enc Tryz.prog w base spare held n 85 ((cs.drop 3).take (Tryz.prog.cellsOf 85)) = xs[2]? := hf 2 _ rfl
  have h3 : DataW.trod enc Tryz.prog w base spare held n 3 ((cs.drop 4).take (Tryz.prog.cellsOf 3)) = xs[3]? := hf 3 _ rfl
  have h4 : DataW.trod enc Tryz.prog w base spare held n 115 ((cs.drop 5).take (Tryz.prog.cellsOf 115)) = xs[4]? := hf 4 _ rfl
  have h5 : DataW.trod enc Tryz.prog w base spare held n 3 ((cs.drop 6).take (Tryz.prog.cellsOf 3)) = xs[5]? := hf 5 _ rfl
  have h6 : DataW.trod enc Tryz.prog w base spare held n 117 ((cs.drop 7).take (Tryz.prog.cellsOf 117)) = xs[6]? := hf 6 _ rfl
  rw [hy0] at h0; rw [hy1] at h1; rw [hy2] at h2; rw [hy3] at h3; rw [hy4] at h4; rw [hy5] at h5; rw [hy6] at h6
  simp only [cells3, cells27, cells85, cells115, cells117] at h0 h1 h2 h3 h4 h5 h6
  match cs, hl with
  | [c0, c1, c2, c3, c4, c5, c6, c7, c8, c9], _ =>
    obtain ⟨n0, e0, w0⟩ := rd_int h0
    obtain ⟨r, kr, rr⟩ := rd_rowL (dp := dp) h1
    obtain ⟨anl, al, av, a1, a2, a3, a4, a5, a6⟩ := rd_sliceG (dp := dp) (α := α) (fun a => [e a]) ok Tryz.underlying85 cells49 (by omega) (fun _ => rfl) (fun n' cs' x' hn' hx' => by
      obtain ⟨z, kz, u, rfl, ou, ru⟩ := HA _ _ _ (by omega) hx'
      exact ⟨z, kz, RelL.cons ou ru RelL.nil⟩) h2
    obtain ⟨n3, e3, w3⟩ := rd_int h3
    obtain ⟨inl, il, iv, i1, i2, i3, i4, i5, i6⟩ := rd_sliceG (dp := dp) (α := Vl × α) (eIt e) (fun p => okVl p.1 ∧ ok p.2) Tryz.underlying115 cells139 (by omega) (fun _ => rfl) (fun n' cs' x' hn' hx' => rd_item HA (by omega) hx') h4
    obtain ⟨n5, e5, w5⟩ := rd_int h5
    obtain ⟨v, kv, rv⟩ := rd_vl (dp := dp) h6
    simp at e0 rr a4 e3 i4 e5 rv
    subst e0 a4 e3 i4 e5
    refine ⟨⟨n0, r, anl, al, n3, inl, il, n5, v, ex⟩, rfl, ⟨w0, kr, a1, by simpa [maxLen] using a3, a2, w3, i1, by simpa [maxLen] using i3, i2, w5, kv, hex⟩, ?_⟩
    exact RelL.cons rfl (.i _ _) (RelL.app rr (RelL.cons a5 a6 (RelL.cons rfl (.i _ _) (RelL.cons i5 i6 (RelL.cons rfl (.i _ _) rv)))))

theorem rd_fac (HA : Rds enc dp w base spare held F e ok) (hF : fuel ≤ F + 1) (h : DataW.trod enc Tryz.prog w base spare held fuel 121 cs = some x) : ∃ f : Fc α, OkFc ok f ∧ RelL dp w cs (eFc e f) := by
  obtain ⟨xs, n, rfl, _, hl, hxl, hf⟩ := DataW.trod_struct Tryz.underlying121 h
  rw [cells121] at hl
  have hy : ∀ i, i < 2 → ∃ y, xs[i]? = some y := fun i hi => ⟨_, List.getElem?_eq_getElem (by rw [hxl]; exact hi)⟩
  obtain ⟨y0, hy0⟩ := hy 0 (by omega)
  obtain ⟨y1, hy1⟩ := hy 1 (by omega)
  have h0 : DataW.trod enc Tryz.prog w base spare held n 119 ((cs.drop 0).take (Tryz.prog.cellsOf 119)) = xs[0]? := hf 0 _ rfl
  have h1 : DataW.trod enc Tryz.prog w base spare held n 3 ((cs.drop 10).take (Tryz.prog.cellsOf 3)) = xs[1]? := hf 1 _ rfl
  rw [hy0] at h0; rw [hy1] at h1
  simp only [cells119, cells3] at h0 h1
  match cs, hl with
  | [c0, c1, c2, c3, c4, c5, c6, c7, c8, c9, c10], _ =>
    obtain ⟨n1, e1, w1⟩ := rd_int h1
    obtain ⟨f, hfe, kf, rf⟩ := rd_atom (dp := dp) HA (by omega) h0 n1 w1
    simp at e1 rf
    subst e1
    refine ⟨f, kf, ?_⟩
    have := RelL.app rf (RelL.cons (v := .int .i64 n1) rfl (.i _ _) RelL.nil)
    rw [← hfe] at this ⊢
    exact this

theorem rd_term (HA : Rds enc dp w base spare held F e ok) (hF : fuel ≤ F + 1) (h : DataW.trod enc Tryz.prog w base spare held fuel 113 cs = some x) : ∃ t : Tm α, OkTm ok t ∧ RelL dp w cs (eTm e t) := by
  obtain ⟨xs, n, rfl, _, hl, hxl, hf⟩ := DataW.trod_struct Tryz.underlying113 h
  rw [cells113] at hl
  have hy : ∀ i, i < 2 → ∃ y, xs[i]? = some y := fun i hi => ⟨_, List.getElem?_eq_getElem (by rw [hxl]; exact hi)⟩
  obtain ⟨y0, hy0⟩ := hy 0 (by omega)
  obtain ⟨y1, hy1⟩ := hy 1 (by omega)
  have h0 : DataW.trod enc Tryz.prog w base spare held n 2 ((cs.drop 0).take (Tryz.prog.cellsOf 2)) = xs[0]? := hf 0 _ rfl
  have h1 : DataW.trod enc Tryz.prog w base spare held n 111 ((cs.drop 1).take (Tryz.prog.cellsOf 111)) = xs[1]? := hf 1 _ rfl
  rw [hy0] at h0; rw [hy1] at h1
  simp only [cells2, cells111] at h0 h1
  match cs, hl with
  | [c0, c1], _ =>
    obtain ⟨n0, e0, w0⟩ := rd_int2 h0
    obtain ⟨nl, l, v, a1, a2, a3, a4, a5, a6⟩ := rd_sliceG (dp := dp) (α := Fc α) (eFc e) (OkFc ok) Tryz.underlying111 cells121 (by omega) (fun _ => rfl) (fun n' cs' x' hn' hx' => rd_fac HA (by omega) hx') h1
    simp at e0 a4
    subst e0 a4
    exact ⟨⟨n0, nl, l⟩, ⟨w0, a1, by simpa [maxLen] using a3, a2⟩, RelL.cons rfl (.i _ _) (RelL.cons a5 a6 RelL.nil)⟩

theorem rd_anns (HA : Rds enc dp w base spare held F e ok) : Rds enc dp w base spare held (F + 1) (eAn e) (OkAn ok) := by
  intro n cs x hn h
  obtain ⟨nl, l, v, a1, a2, a3, a4, a5, a6⟩ := rd_sliceG (dp := dp) (α := Tm α) (eTm e) (OkTm ok) Tryz.underlying49 cells113 (by omega) (fun _ => rfl) (fun n' cs' x' hn' hx' => rd_term HA (by omega) hx') h
  exact ⟨⟨nl, l⟩, ⟨a1, by simpa [maxLen] using a3, a2⟩, v, a4, a5, a6⟩

theorem rd_ann : ∀ F, Rds enc dp w base spare held F (eAnn F) (OkAnn F)
  | 0 => fun n cs x hn h => by
    obtain rfl : n = 0 := by omega
    simp [DataW.trod] at h
  | F + 1 => rd_anns (rd_ann F)

theorem rd_annArg {r : Reach} {b0 : Nat} {v : Value} {d : DataW H} {ps : List MemPlace} (hv : Value.okWide Tryz.prog w r b0 49 v) (h : DataW.Trod enc Tryz.prog w base spare held 49 v d ps) :
    ∃ a : SA, okS a ∧ Rel dp (there w) [] w v (eS a) := by
  obtain ⟨fuel, h⟩ := h
  have hc : v.cells.toList = [v] := by
    simp only [Value.okWide, Tryz.underlying49] at hv
    cases v <;> first | rfl | (simp only [Cell.okWide, Tryz.underlying49, Cell.ok] at hv)
  obtain ⟨a, ka, u, eu, _, ru⟩ := rd_ann (dp := dp) fuel fuel _ _ (Nat.le_refl _) h
  rw [hc] at eu
  injection eu with eu
  subst eu
  exact ⟨⟨fuel, a⟩, ka, ru⟩
end

end Go.Proofs.YtjlmeikcfdanmaaGreatDoor.DE.V

namespace Go.Proofs.YtjlmeikcfdanmaaGreatDoor.DE.V
open Go

theorem jnE {α : Type} (K : α) (X : α → Prop) : jn K X = X K := rfl

theorem v216 {S : Store} {id n : Nat} {d : Array Row} (lo hi first : Nat) (hid : id < S.length) (hn : d.size = n) (hb : first + hi ≤ n) (hlo : lo ≤ n) (h9 : n ≤ 1000000) :
    call dp 216 [arN id n, iN lo, iN hi, iN first, cmpF] (put S id d) = some (.tup [], put S id (Go.Sort.siftDown ltR hi first lo d)) := by
  obtain ⟨r, S', e, rfl, rfl⟩ := f216 (arN id n) (iN lo) (iN hi) (iN first) cmpF (put S id d) (fun r S' => r = .tup [] ∧ S' = put S id (Go.Sort.siftDown ltR hi first lo d)) (by
    simp (disch := omega) only [s216]
    let J : Nat → List D → Store → Prop := fun q fr S' => ∃ root d' x11 x18 x58, q = hi - root ∧ root ≤ n ∧ d'.size = n ∧ Go.Sort.siftDown ltR hi first root d' = Go.Sort.siftDown ltR hi first lo d ∧ S' = put S id d' ∧
      fr = mkf 82 [(0, arN id n), (2, iN hi), (3, iN first), (4, cmpF), (10, iN root), (11, x11), (18, x18), (58, x58)]
    refine W_loop J ?_ (hi - lo) _ _ ⟨lo, d, _, _, _, rfl, hlo, hn, rfl, rfl, rfl⟩
    rintro q fr S' ⟨root, d', x11, x18, x58, rfl, hrn, hn', hio, rfl, rfl⟩
    rw [← wp_W, e216_0]
    have m1 : binD .mul .num (iN 2) (iN root) = some (iN (2 * root)) := mul_N (by omega)
    have m2 : binD .add .num (iN (2 * root)) (iN 1) = some (iN (2 * root + 1)) := add_N (by omega)
    have m3 : binD .add .num (iN (2 * root + 1)) (iN 1) = some (iN (2 * root + 2)) := add_N (by omega)
    rw [Go.Sort.siftDown] at hio
    by_cases h0 : 2 * root + 1 ≥ hi
    · rw [dif_pos h0] at hio
      have h0' : hi ≤ 2 * root + 1 := h0
      simp [-Int.natCast_add, s216_0, l0, l1, l2, m1, m2, geq_N, h0', FinK_nil, hio]
    rw [dif_neg h0] at hio
    have h0' : ¬ hi ≤ 2 * root + 1 := h0
    have r1 : binD .add .num (iN first) (iN root) = some (iN (first + root)) := add_N (by omega)
    have r2 : binD .add .num (iN first) (iN (2 * root + 1)) = some (iN (first + (2 * root + 1))) := add_N (by omega)
    have r3 : binD .add .num (iN first) (iN (2 * root + 2)) = some (iN (first + (2 * root + 2))) := add_N (by omega)
    have r4 : binD .add .num (iN (first + (2 * root + 1))) (iN 1) = some (iN (first + (2 * root + 2))) := add_N (by omega)
    have i0 := ia_N (id := id) (n := n) (k := first + root) (by omega)
    have d0 := ld_N (d := d') (k := first + root) hid (by omega)
    have i1 := ia_N (id := id) (n := n) (k := first + (2 * root + 1)) (by omega)
    have d1 := ld_N (d := d') (k := first + (2 * root + 1)) hid (by omega)
    have c1 := v123 d'[first + root]! d'[first + (2 * root + 1)]!
    have s1 := st_N (d := d') (k := first + root) d'[first + (2 * root + 1)]! hid (by omega)
    have s2 := st_N (d := d'.setIfInBounds (first + root) d'[first + (2 * root + 1)]!) (k := first + (2 * root + 1)) d'[first + root]! hid (by simp; omega)
    by_cases h1 : 2 * root + 2 < hi
    · have i2 := ia_N (id := id) (n := n) (k := first + (2 * root + 2)) (by omega)
      have d2 := ld_N (d := d') (k := first + (2 * root + 2)) hid (by omega)
      have c2 := v123 d'[first + root]! d'[first + (2 * root + 2)]!
      have c3 := v123 d'[first + (2 * root + 1)]! d'[first + (2 * root + 2)]!
      have s3 := st_N (d := d') (k := first + root) d'[first + (2 * root + 2)]! hid (by omega)
      have s4 := st_N (d := d'.setIfInBounds (first + root) d'[first + (2 * root + 2)]!) (k := first + (2 * root + 2)) d'[first + root]! hid (by simp; omega)
      cases h2 : ltR d'[first + (2 * root + 1)]! d'[first + (2 * root + 2)]! with
      | true =>
        rw [if_pos (by simp [h1, Nat.add_assoc, h2])] at hio
        cases h3 : ltR d'[first + root]! d'[first + (2 * root + 2)]! with
        | true =>
          rw [if_neg (by simp [h3]), dif_pos h1] at hio
          simp only [s216_0, l0, l1, l2, m1, m2, m3, r1, r2, r3, r4, geq_N, lss_N, h0', h1, decide_true, decide_false, OX_some, WB_b, Bool.false_eq_true, if_false, if_true, gsel_tt, i0, i1, i2, d0, d1, d2, cmpF, fnD_fn, List.append_nil, c1, c2, c3, lss_c, h2, h3, pick_t, jnE, un_not, Bool.not_true, s3, s4, Qseq_normal]
          exact ⟨hi - (2 * root + 2), by omega, 2 * root + 2, Go.Sort.swp d' (first + root) (first + (2 * root + 2)), _, _, _, rfl, by omega, (swp_size _ _ _).trans hn', hio, rfl, rfl⟩
        | false =>
          rw [if_pos (by simp [h3])] at hio
          simp only [s216_0, l0, l1, l2, m1, m2, m3, r1, r2, r3, r4, geq_N, lss_N, h0', h1, decide_true, decide_false, OX_some, WB_b, Bool.false_eq_true, if_false, if_true, gsel_tt, i0, i1, i2, d0, d1, d2, cmpF, fnD_fn, List.append_nil, c1, c2, c3, lss_c, h2, h3, pick_t, jnE, un_not, Bool.not_false, Qseq_ret, Qblk_ret, FinK_nil]
          exact ⟨trivial, by rw [hio]⟩
      | false =>
        rw [if_neg (by simp [Nat.add_assoc, h2])] at hio
        cases h3 : ltR d'[first + root]! d'[first + (2 * root + 1)]! with
        | true =>
          rw [if_neg (by simp [h3])] at hio
          simp only [s216_0, l0, l1, l2, m1, m2, m3, r1, r2, r3, r4, geq_N, lss_N, h0', h1, decide_true, decide_false, OX_some, WB_b, Bool.false_eq_true, if_false, if_true, gsel_tt, i0, i1, i2, d0, d1, d2, cmpF, fnD_fn, List.append_nil, c1, c2, c3, lss_c, h2, h3, pick_t, jnE, un_not, Bool.not_true, s1, s2, Qseq_normal]
          exact ⟨hi - (2 * root + 1), by omega, 2 * root + 1, Go.Sort.swp d' (first + root) (first + (2 * root + 1)), _, _, _, rfl, by omega, (swp_size _ _ _).trans hn', hio, rfl, rfl⟩
        | false =>
          rw [if_pos (by simp [h3])] at hio
          simp only [s216_0, l0, l1, l2, m1, m2, m3, r1, r2, r3, r4, geq_N, lss_N, h0', h1, decide_true, decide_false, OX_some, WB_b, Bool.false_eq_true, if_false, if_true, gsel_tt, i0, i1, i2, d0, d1, d2, cmpF, fnD_fn, List.append_nil, c1, c2, c3, lss_c, h2, h3, pick_t, jnE, un_not, Bool.not_false, Qseq_ret, Qblk_ret, FinK_nil]
          exact ⟨trivial, by rw [hio]⟩
    · rw [if_neg (by simp; omega)] at hio
      cases h3 : ltR d'[first + root]! d'[first + (2 * root + 1)]! with
      | true =>
        rw [if_neg (by simp [h3])] at hio
        simp only [s216_0, l0, l1, l2, m1, m2, m3, r1, r2, r3, r4, geq_N, lss_N, h0', h1, decide_true, decide_false, OX_some, WB_b, Bool.false_eq_true, if_false, if_true, gsel_ft, i0, i1, d0, d1, cmpF, fnD_fn, List.append_nil, c1, lss_c, h3, pick_f, jnE, un_not, Bool.not_true, s1, s2, Qseq_normal]
        exact ⟨hi - (2 * root + 1), by omega, 2 * root + 1, Go.Sort.swp d' (first + root) (first + (2 * root + 1)), _, _, _, rfl, by omega, (swp_size _ _ _).trans hn', hio, rfl, rfl⟩
      | false =>
        rw [if_pos (by simp [h3])] at hio
        simp only [s216_0, l0, l1, l2, m1, m2, m3, r1, r2, r3, r4, geq_N, lss_N, h0', h1, decide_true, decide_false, OX_some, WB_b, Bool.false_eq_true, if_false, if_true, gsel_ft, i0, i1, d0, d1, cmpF, fnD_fn, List.append_nil, c1, lss_c, h3, pick_f, jnE, un_not, Bool.not_false, Qseq_ret, Qblk_ret, FinK_nil]
        exact ⟨trivial, by rw [hio]⟩)
  exact e

def iP (k : Nat) : D := .i .i64 ((k : Int) - 1)
theorem iP_succ (k : Nat) : iP (k + 1) = iN k := by simp only [iP, iN]; congr 1; omega
theorem sub_P (k : Nat) (h : k < 4000000000) : binD .sub .num (iN k) (iN 1) = some (iP k) := by
  simp only [iN, iP, bin_sub]; rw [wrap64 ⟨by omega, by omega⟩]; rfl
theorem geq_P0 : binD .geq .num (iP 0) (iN 0) = some (.b false) := rfl

theorem siftDown_size (hi first : Nat) : ∀ (root : Nat) (d : Array Row), (Go.Sort.siftDown ltR hi first root d).size = d.size := by
  intro root d
  fun_induction Go.Sort.siftDown ltR hi first root d <;> simp_all [swp_size]

theorem v199 {S : Store} {id n : Nat} {d : Array Row} (a b : Nat) (hid : id < S.length) (hn : d.size = n) (hab : a < b) (hb : b ≤ n) (h9 : n ≤ 1000000) :
    call dp 199 [arN id n, iN a, iN b, cmpF] (put S id d) = some (.tup [], put S id (Go.Sort.heapSort ltR d a b)) := by
  obtain ⟨r, S', e, rfl, rfl⟩ := f199 (arN id n) (iN a) (iN b) cmpF (put S id d) (fun r S' => r = .tup [] ∧ S' = put S id (Go.Sort.heapSort ltR d a b)) (by
    have m1 : binD .sub .num (iN b) (iN a) = some (iN (b - a)) := sub_N (by omega) (by omega)
    have m2 : binD .sub .num (iN (b - a)) (iN 1) = some (iN (b - a - 1)) := sub_N (by omega) (by omega)
    have m3 : binD .quo .num (iN (b - a - 1)) (iN 2) = some (iN ((b - a - 1) / 2)) := quo_N (by omega) (by omega)
    simp only [s199, l0, l1, l2, m1, m2, m3, OX_some]
    let J : Nat → List D → Store → Prop := fun q fr S' => ∃ d' x12 x21 x33, q ≤ b - a ∧ d'.size = n ∧ Go.Sort.heapPop ltR a (b - a) (Go.Sort.heapBuild ltR (b - a) a q d') = Go.Sort.heapSort ltR d a b ∧ S' = put S id d' ∧
      fr = mkf 60 [(0, arN id n), (3, cmpF), (8, iN a), (9, iN 0), (10, iN (b - a)), (11, iP q), (12, x12), (21, x21), (33, x33)]
    refine W_loop J ?_ ((b - a - 1) / 2 + 1) _ _ ⟨d, _, _, _, by omega, hn, rfl, rfl, by rw [iP_succ]⟩
    rintro q fr S' ⟨d', x12, x21, x33, hq, hn', hio, rfl, rfl⟩
    rw [← wp_W, e199_1]
    cases q with
    | succ k =>
      have m4 := v216 (d := d') k (b - a) a hid hn' (by omega) (by omega) h9
      simp only [s199_1, l0, l1, iP_succ, geq_N, Nat.zero_le, decide_true, OX_some, WB_b, if_true, m4, sub_P k (by omega), Qseq_normal]
      exact ⟨k, by omega, _, _, _, _, by omega, (siftDown_size _ _ _ _).trans hn', hio, rfl, rfl⟩
    | zero =>
      simp only [s199_1, l0, l1, geq_P0, OX_some, WB_b, Bool.false_eq_true, if_false, Qseq_exit, Qblk_same, QS_normal, e199_r0, s199_r0, m2]
      rw [Go.Sort.heapBuild] at hio
      let J2 : Nat → List D → Store → Prop := fun q fr S' => ∃ d' x10 x11 x21 x33, q ≤ b - a ∧ d'.size = n ∧ Go.Sort.heapPop ltR a q d' = Go.Sort.heapSort ltR d a b ∧ S' = put S id d' ∧
        fr = mkf 60 [(0, arN id n), (3, cmpF), (8, iN a), (9, iN 0), (10, x10), (11, x11), (12, iP q), (21, x21), (33, x33)]
      have eP : iN (b - a - 1) = iP (b - a) := by
        have : b - a = (b - a - 1) + 1 := by omega
        rw [this, iP_succ]; rfl
      rw [eP]
      refine W_loop J2 ?_ (b - a) _ _ ⟨d', _, _, _, _, by omega, hn', hio, rfl, rfl⟩
      · rintro q fr S' ⟨d', x10, x11, x21, x33, hq, hn', hio, rfl, rfl⟩
        rw [← wp_W, e199_0]
        cases q with
        | succ k =>
          have r1 : binD .add .num (iN a) (iN k) = some (iN (a + k)) := add_N (by omega)
          have i0 := ia_N (id := id) (n := n) (k := a) (by omega)
          have i1 := ia_N (id := id) (n := n) (k := a + k) (by omega)
          have d0 := ld_N (d := d') (k := a) hid (by omega)
          have d1 := ld_N (d := d') (k := a + k) hid (by omega)
          have s1 := st_N (d := d') (k := a) d'[a + k]! hid (by omega)
          have s2 := st_N (d := d'.setIfInBounds a d'[a + k]!) (k := a + k) d'[a]! hid (by simp; omega)
          have m4 : call dp 216 [arN id n, iN 0, iN k, iN a, cmpF] (put S id ((d'.setIfInBounds a d'[a + k]!).setIfInBounds (a + k) d'[a]!)) = _ := v216 (d := Go.Sort.swp d' a (a + k)) 0 k a hid ((swp_size _ _ _).trans hn') (by omega) (by omega) h9
          simp only [s199_0, l0, l1, iP_succ, geq_N, Nat.zero_le, decide_true, OX_some, WB_b, if_true, r1, i0, i1, d0, d1, s1, s2, m4, sub_P k (by omega), Qseq_normal]
          exact ⟨k, by omega, _, _, _, _, _, by omega, (siftDown_size _ _ _ _).trans ((swp_size _ _ _).trans hn'), hio, rfl, rfl⟩
        | zero =>
          rw [Go.Sort.heapPop] at hio
          simp only [s199_0, l0, l1, geq_P0, OX_some, WB_b, Bool.false_eq_true, if_false, Qseq_exit, Qblk_same, FinK_normal, FinK_nil]
          exact ⟨trivial, by rw [hio]⟩)
  exact e

theorem v202 {S : Store} {id n : Nat} {d : Array Row} (a b : Nat) (hid : id < S.length) (hn : d.size = n) (hab : a < b) (hb : b ≤ n) (h9 : n ≤ 1000000) :
    call dp 202 [arN id n, iN a, iN b, cmpF] (put S id d) = some (.tup [], put S id (Go.Sort.reverseRange d a b)) := by
  obtain ⟨r, S', e, rfl, rfl⟩ := f202 (arN id n) (iN a) (iN b) cmpF (put S id d) (fun r S' => r = .tup [] ∧ S' = put S id (Go.Sort.reverseRange d a b)) (by
    have m1 : binD .sub .num (iN b) (iN 1) = some (iN (b - 1)) := sub_N (by omega) (by omega)
    simp only [s202, l1, m1, OX_some]
    let J : Nat → List D → Store → Prop := fun q fr S' => ∃ i j d' x15, q = j - i ∧ i < n ∧ j < n ∧ d'.size = n ∧ Go.Sort.reverseLoop i j d' = Go.Sort.reverseRange d a b ∧ S' = put S id d' ∧
      fr = mkf 34 [(0, arN id n), (8, iN i), (9, iN j), (15, x15)]
    refine W_loop J ?_ (b - 1 - a) _ _ ⟨a, b - 1, d, _, rfl, by omega, by omega, hn, rfl, rfl, rfl⟩
    rintro q fr S' ⟨i, j, d', x15, rfl, hi, hj, hn', hio, rfl, rfl⟩
    rw [← wp_W, e202_0]
    rw [Go.Sort.reverseLoop] at hio
    by_cases h : i < j
    · rw [if_pos h] at hio
      have m2 : binD .add .num (iN i) (iN 1) = some (iN (i + 1)) := add_N (by omega)
      have m3 : binD .sub .num (iN j) (iN 1) = some (iN (j - 1)) := sub_N (by omega) (by omega)
      have i0 := ia_N (id := id) hi
      have i1 := ia_N (id := id) hj
      have d0 := ld_N (d := d') (k := i) hid (by omega)
      have d1 := ld_N (d := d') (k := j) hid (by omega)
      have s1 := st_N (d := d') (k := i) d'[j]! hid (by omega)
      have s2 := st_N (d := d'.setIfInBounds i d'[j]!) (k := j) d'[i]! hid (by simp; omega)
      simp only [s202_0, l1, lss_N, h, decide_true, OX_some, WB_b, if_true, m2, m3, i0, i1, d0, d1, s1, s2, Qseq_normal]
      exact ⟨j - 1 - (i + 1), by omega, i + 1, j - 1, _, _, rfl, by omega, by omega, (swp_size _ _ _).trans hn', hio, rfl, rfl⟩
    · rw [if_neg h] at hio
      simp only [s202_0, l1, lss_N, h, decide_false, OX_some, WB_b, Bool.false_eq_true, if_false, Qseq_exit, Qblk_same, FinK_normal, FinK_nil]
      exact ⟨trivial, by rw [hio]⟩)
  exact e

end Go.Proofs.YtjlmeikcfdanmaaGreatDoor.DE.V

namespace Go.Proofs.YtjlmeikcfdanmaaGreatDoor.DE.V
open Go

def swB (k : Nat) : Ent := .box [iN k]

theorem sget_swB {S : Store} {id : Nat} (d : Array Row) (k : Nat) (h : id < S.length) : sget (put (swB k :: S) id d) S.length = some (swB k) := by
  rw [sget_put_ne _ (by omega)]; simp
theorem ld_swB {S : Store} {id : Nat} (d : Array Row) (k : Nat) (h : id < S.length) : ldD (put (swB k :: S) id d) 1 false (.bx S.length 0) = some (iN k) := by
  simp only [ldD_bx, sget_swB d k h]; rfl
theorem st_swB {S : Store} {id : Nat} (d : Array Row) (k m : Nat) (h : id < S.length) : stD (put (swB k :: S) id d) 1 false (.bx S.length 0) (iN m) = some (put (swB m :: S) id d) := by
  simp only [stD_bx, sget_swB d k h]
  have : stE (some (swB k)) (put (swB k :: S) id d) S.length 1 false 0 (iN m) = some (sset (put (swB k :: S) id d) S.length (swB m)) := rfl
  rw [this, put_push _ _ h, put_push _ _ h]
  simp only [sset, put_len, if_true]

theorem v224 {S : Store} {id n k : Nat} {d : Array Row} (a b : Nat) (hid : id < S.length) (hn : d.size = n) (ha : a < n) (hb : b < n) (hk : k ≤ 1000) :
    ∃ i j k', call dp 224 [arN id n, iN a, iN b, .bx S.length 0, cmpF] (put (swB k :: S) id d) = some (.tup [iN i, iN j], put (swB k' :: S) id d) ∧ k' ≤ k + 1 ∧ ((i = a ∧ j = b) ∨ (i = b ∧ j = a)) := by
  have hid' : id < (swB k :: S).length := by simp; omega
  obtain ⟨r, S', e, i, j, k', rfl, rfl, h1, h2⟩ := f224 (arN id n) (iN a) (iN b) (.bx S.length 0) cmpF (put (swB k :: S) id d) (fun r S' => ∃ i j k', r = .tup [iN i, iN j] ∧ S' = put (swB k' :: S) id d ∧ k' ≤ k + 1 ∧ ((i = a ∧ j = b) ∨ (i = b ∧ j = a))) (by
    have i0 := ia_N (id := id) ha
    have i1 := ia_N (id := id) hb
    have d0 := ld_N (d := d) (k := a) hid' (by omega)
    have d1 := ld_N (d := d) (k := b) hid' (by omega)
    have c1 := v123 d[b]! d[a]!
    have m1 : binD .add .num (iN k) (iN 1) = some (iN (k + 1)) := add_N (by omega)
    have hnil : nilckD (.bx S.length 0) = some (.bx S.length 0) := rfl
    cases h : ltR d[b]! d[a]! with
    | true =>
      simp only [s224, l0, l1, i0, i1, d0, d1, OX_some, cmpF, fnD_fn, List.append_nil, c1, lss_c, h, WB_b, if_true, hnil, ld_swB d k hid, m1, st_swB d k _ hid]
      exact ⟨b, a, k + 1, rfl, rfl, by omega, .inr ⟨rfl, rfl⟩⟩
    | false =>
      simp only [s224, l0, i0, i1, d0, d1, OX_some, cmpF, fnD_fn, List.append_nil, c1, lss_c, h, WB_b, Bool.false_eq_true, if_false]
      exact ⟨a, b, k, rfl, rfl, by omega, .inl ⟨rfl, rfl⟩⟩)
  exact ⟨i, j, k', e, h1, h2⟩

theorem v220 {S : Store} {id n k : Nat} {d : Array Row} (a b c : Nat) (hid : id < S.length) (hn : d.size = n) (ha : a < n) (hb : b < n) (hc : c < n) (hk : k ≤ 900) :
    ∃ i k', call dp 220 [arN id n, iN a, iN b, iN c, .bx S.length 0, cmpF] (put (swB k :: S) id d) = some (iN i, put (swB k' :: S) id d) ∧ k' ≤ k + 3 ∧ (i = a ∨ i = b ∨ i = c) := by
  obtain ⟨r, S', e, i, k', rfl, rfl, h1, h2⟩ := f220 (arN id n) (iN a) (iN b) (iN c) (.bx S.length 0) cmpF (put (swB k :: S) id d) (fun r S' => ∃ i k', r = iN i ∧ S' = put (swB k' :: S) id d ∧ k' ≤ k + 3 ∧ (i = a ∨ i = b ∨ i = c)) (by
    obtain ⟨i1, j1, k1, e1, q1, o1⟩ := v224 (k := k) a b hid hn ha hb (by omega)
    obtain ⟨i2, j2, k2, e2, q2, o2⟩ := v224 (k := k1) j1 c hid hn (by omega) hc (by omega)
    obtain ⟨i3, j3, k3, e3, q3, o3⟩ := v224 (k := k2) i1 i2 hid hn (by omega) (by omega) (by omega)
    have x0 : ∀ i j : Nat, extD (.tup [iN i, iN j]) 0 = some (iN i) := fun _ _ => rfl
    have x1 : ∀ i j : Nat, extD (.tup [iN i, iN j]) 1 = some (iN j) := fun _ _ => rfl
    simp only [s220, e1, e2, e3, OX_some, x0, x1]
    exact ⟨j3, k3, rfl, rfl, by omega, by omega⟩)
  exact ⟨i, k', e, h1, h2⟩

theorem v201 {S : Store} {id n : Nat} {d : Array Row} (a b : Nat) (hid : id < S.length) (hn : d.size = n) (hab : a < b) (hb : b ≤ n) (h9 : n ≤ 49) :
    ∃ i h k', call dp 201 [arN id n, iN a, iN b, cmpF] (put S id d) = some (.tup [iN i, iN h], put (swB k' :: S) id d) ∧ a ≤ i ∧ i < b := by
  obtain ⟨r, S', e, i, h, k', rfl, rfl, h1, h2⟩ := f201 (arN id n) (iN a) (iN b) cmpF (put S id d) (fun r S' => ∃ i h k', r = .tup [iN i, iN h] ∧ S' = put (swB k' :: S) id d ∧ a ≤ i ∧ i < b) (by
    have m1 : binD .sub .num (iN b) (iN a) = some (iN (b - a)) := sub_N (by omega) (by omega)
    have m2 : binD .quo .num (iN (b - a)) (iN 4) = some (iN ((b - a) / 4)) := quo_N (by omega) (by omega)
    have m3 : binD .mul .num (iN ((b - a) / 4)) (iN 1) = some (iN ((b - a) / 4 * 1)) := mul_N (by omega)
    have m4 : binD .mul .num (iN ((b - a) / 4)) (iN 2) = some (iN ((b - a) / 4 * 2)) := mul_N (by omega)
    have m5 : binD .mul .num (iN ((b - a) / 4)) (iN 3) = some (iN ((b - a) / 4 * 3)) := mul_N (by omega)
    have m6 : binD .add .num (iN a) (iN ((b - a) / 4 * 1)) = some (iN (a + (b - a) / 4 * 1)) := add_N (by omega)
    have m7 : binD .add .num (iN a) (iN ((b - a) / 4 * 2)) = some (iN (a + (b - a) / 4 * 2)) := add_N (by omega)
    have m8 : binD .add .num (iN a) (iN ((b - a) / 4 * 3)) = some (iN (a + (b - a) / 4 * 3)) := add_N (by omega)
    have h50 : ¬ 50 ≤ b - a := by omega
    have hal : Ent.box [iN 0] :: put S id d = put (swB 0 :: S) id d := (put_push d _ hid).symm
    have fin : ∀ i k', a ≤ i → i < b → OX (ldD (put (swB k' :: S) id d) 1 false (.bx S.length 0)) fun x24 => OX (binD .eql .num x24 (iN 0)) fun x25 =>
        WB x25 (∃ i_1 h k'_1, D.tup [iN i, iN 1] = D.tup [iN i_1, iN h] ∧ put (swB k' :: S) id d = put (swB k'_1 :: S) id d ∧ a ≤ i_1 ∧ i_1 < b)
        (OX (binD .eql .num x24 (iN 12)) fun x26 => WB x26 (∃ i_1 h k'_1, D.tup [iN i, iN 2] = D.tup [iN i_1, iN h] ∧ put (swB k' :: S) id d = put (swB k'_1 :: S) id d ∧ a ≤ i_1 ∧ i_1 < b)
          (∃ i_1 h k'_1, D.tup [iN i, iN 0] = D.tup [iN i_1, iN h] ∧ put (swB k' :: S) id d = put (swB k'_1 :: S) id d ∧ a ≤ i_1 ∧ i_1 < b)) := by
      intro i k' h1 h2
      simp only [ld_swB d k' hid, OX_some, eql_N, WB_b]
      split
      · exact ⟨i, 1, k', rfl, rfl, h1, h2⟩
      · split
        · exact ⟨i, 2, k', rfl, rfl, h1, h2⟩
        · exact ⟨i, 0, k', rfl, rfl, h1, h2⟩
    by_cases h8 : 8 ≤ b - a
    · obtain ⟨i, k', e, _, h2⟩ := v220 (S := S) (k := 0) (d := d) (a + (b - a) / 4 * 1) (a + (b - a) / 4 * 2) (a + (b - a) / 4 * 3) hid hn (by omega) (by omega) (by omega) (by omega)
      simp only [s201, l0, l1, l2, l3, l4, l8, l12, l50, m1, m2, m3, m4, m5, m6, m7, m8, OX_some, al_eq, put_len, hal, geq_N, h8, h50, decide_true, decide_false, jnE, WB_b, if_true, Bool.false_eq_true, if_false, e]
      exact fin i k' (by omega) (by omega)
    · simp only [s201, l0, l1, l2, l3, l4, l8, l12, l50, m1, m2, m3, m4, m5, m6, m7, m8, OX_some, al_eq, put_len, hal, geq_N, h8, decide_false, jnE, WB_b, Bool.false_eq_true, if_false]
      exact fin (a + (b - a) / 4 * 2) 0 (by omega) (by omega))
  exact ⟨i, h, k', e, h1, h2⟩

theorem pis {d : Array Row} {a b : Nat} (h : b - a < 50) : Go.Sort.partialInsertionSort ltR d a b = (d, decide (Go.Sort.scanSorted ltR d b (a + 1) = b)) := by
  rw [Go.Sort.partialInsertionSort, Go.Sort.partialIns]
  by_cases e : Go.Sort.scanSorted ltR d b (a + 1) = b
  · simp [e]
  · simp [e, h]

theorem v203 {S : Store} {id n : Nat} {d : Array Row} (a b : Nat) (hid : id < S.length) (hn : d.size = n) (hab : a < b) (hb : b ≤ n) (h9 : n ≤ 49) :
    call dp 203 [arN id n, iN a, iN b, cmpF] (put S id d) = some (.b (Go.Sort.partialInsertionSort ltR d a b).2, put S id d) := by
  rw [pis (by omega)]
  obtain ⟨r, S', e, rfl, rfl⟩ := f203 (arN id n) (iN a) (iN b) cmpF (put S id d) (fun r S' => r = .b (decide (Go.Sort.scanSorted ltR d b (a + 1) = b)) ∧ S' = put S id d) (by
    have m1 : binD .add .num (iN a) (iN 1) = some (iN (a + 1)) := add_N (by omega)
    have m2 : binD .sub .num (iN b) (iN a) = some (iN (b - a)) := sub_N (by omega) (by omega)
    have h50 : b - a < 50 := by omega
    have l5 : D.i .i64 5 = iN 5 := rfl
    simp only [s203, l0, l1, m1, OX_some]
    apply W_step
    rw [← wp_W, e203_3]
    simp only [s203_3, l5, lss_N, show (0 < 5) = True by simp, decide_true, OX_some, WB_b, if_true]
    let J : Nat → List D → Store → Prop := fun q fr S' => ∃ i x16 x36, q = b - i ∧ a < i ∧ i ≤ b ∧ Go.Sort.scanSorted ltR d b i = Go.Sort.scanSorted ltR d b (a + 1) ∧ S' = put S id d ∧
      fr = mkf 141 [(0, arN id n), (1, iN a), (2, iN b), (3, cmpF), (8, .top), (9, iN i), (10, iN 0), (11, .top), (12, .top), (16, x16), (36, x36), (65, .top), (69, .top), (84, .top), (104, .top), (109, .top), (124, .top)]
    refine W_loop J ?_ (b - (a + 1)) _ _ ⟨a + 1, _, _, rfl, by omega, by omega, rfl, rfl, rfl⟩
    rintro q fr S' ⟨i, x16, x36, rfl, hai, hib, hio, rfl, rfl⟩
    rw [← wp_W, e203_2]
    rw [Go.Sort.scanSorted] at hio
    have out : ∀ c : Bool, (c = true → i = b) → ∀ x36, i = Go.Sort.scanSorted ltR d b (a + 1) → s203_r1 (call dp) (arN id n) (iN a) (iN b) cmpF .top (iN i) (iN 0) .top .top .top x36 .top .top .top .top .top .top (put S id d)
        (Qblk 1 (QS (call dp) c203_r2 (Qseq (fun fr' S' => W (call dp) (.loop [] c203_3) fr' S' (Qblk 0 (QS (call dp) c203_r3 (FinK [.t 8] fun r S' => r = D.b (decide (Go.Sort.scanSorted ltR d b (a + 1) = b)) ∧ S' = put S id d)))) (Qblk 0 (QS (call dp) c203_r3 (FinK [.t 8] fun r S' => r = D.b (decide (Go.Sort.scanSorted ltR d b (a + 1) = b)) ∧ S' = put S id d)))))) := by
      intro c _ x36 hi
      rw [← hi]
      by_cases he : i = b
      · simp [s203_r1, eql_N, he]
      · simp [s203_r1, l50, eql_N, lss_N, he, m2, h50]
    by_cases hlt : i < b
    · have i0 := ia_N (id := id) (n := n) (k := i) (by omega)
      have i1 := ia_N (id := id) (n := n) (k := i - 1) (by omega)
      have d0 := ld_N (d := d) (k := i) hid (by omega)
      have d1 := ld_N (d := d) (k := i - 1) hid (by omega)
      have c1 := v123 d[i]! d[i - 1]!
      have m3 : binD .sub .num (iN i) (iN 1) = some (iN (i - 1)) := sub_N (by omega) (by omega)
      have m4 : binD .add .num (iN i) (iN 1) = some (iN (i + 1)) := add_N (by omega)
      cases hc : ltR d[i]! d[i - 1]! with
      | true =>
        rw [if_neg (by simp [hc])] at hio
        simp only [s203_2, l0, l1, lss_N, hlt, decide_true, OX_some, gsel_tt, i0, i1, d0, d1, m3, cmpF, fnD_fn, List.append_nil, c1, lss_c, hc, un_not, Bool.not_true, pick_t, WB_b, Bool.false_eq_true, if_false, Qseq_exit, Qblk_same, QS_normal, e203_r1]
        exact out false (by simp) _ hio
      | false =>
        rw [if_pos (by simp [hc, hlt])] at hio
        simp only [s203_2, l0, l1, lss_N, hlt, decide_true, OX_some, gsel_tt, i0, i1, d0, d1, m3, m4, cmpF, fnD_fn, List.append_nil, c1, lss_c, hc, un_not, Bool.not_false, pick_t, WB_b, if_true, Qseq_normal]
        exact ⟨b - (i + 1), by omega, i + 1, _, _, rfl, by omega, by omega, hio, rfl, rfl⟩
    · rw [if_neg (by simp [hlt])] at hio
      simp only [s203_2, lss_N, hlt, decide_false, OX_some, gsel_ft, gsel_skip, pick_f, WB_b, Bool.false_eq_true, if_false, Qseq_exit, Qblk_same, QS_normal, e203_r1]
      exact out false (by simp) _ hio)
  exact e

end Go.Proofs.YtjlmeikcfdanmaaGreatDoor.DE.V

namespace Go.Proofs.YtjlmeikcfdanmaaGreatDoor.DE.V
open Go

theorem sc204_1 {S : Store} {id n : Nat} {d : Array Row} (a i j : Nat) (x10 x47 x65 x70 : D) {Q : Ex → List D → Store → Prop} (hid : id < S.length) (hn : d.size = n) (ha : a < n) (hj : j < n) (h9 : n ≤ 1000000)
    (hQ : ∀ x47, Q .normal (mkf 90 [(0, arN id n), (1, iN a), (4, cmpF), (10, x10), (11, iN (Go.Sort.scanUp (fun x => !ltR d[a]! x) d j i)), (12, iN j), (47, x47), (65, x65), (70, x70)]) (put S id d)) :
    W (call dp) (.loop [] c204_1) (mkf 90 [(0, arN id n), (1, iN a), (4, cmpF), (10, x10), (11, iN i), (12, iN j), (47, x47), (65, x65), (70, x70)]) (put S id d) (Qblk 2 Q) := by
  let J : Nat → List D → Store → Prop := fun q fr S' => ∃ i' x47, q = j + 1 - i' ∧ Go.Sort.scanUp (fun x => !ltR d[a]! x) d j i' = Go.Sort.scanUp (fun x => !ltR d[a]! x) d j i ∧ S' = put S id d ∧ fr = mkf 90 [(0, arN id n), (1, iN a), (4, cmpF), (10, x10), (11, iN i'), (12, iN j), (47, x47), (65, x65), (70, x70)]
  refine W_loop J ?_ (j + 1 - i) _ _ ⟨i, _, rfl, rfl, rfl, rfl⟩
  rintro q fr S' ⟨i', x47, rfl, hio, rfl, rfl⟩
  rw [← wp_W, e204_1]
  rw [Go.Sort.scanUp] at hio
  by_cases hlt : i' ≤ j
  · have i0 := ia_N (id := id) ha
    have i1 := ia_N (id := id) (n := n) (k := i') (by omega)
    have d0 := ld_N (d := d) (k := a) hid (by omega)
    have d1 := ld_N (d := d) (k := i') hid (by omega)
    have c1 := v123 d[a]! d[i']!
    have m1 : binD .add .num (iN i') (iN 1) = some (iN (i' + 1)) := add_N (by omega)
    cases hc : ltR d[a]! d[i']! with
    | true =>
      rw [if_neg (by simp [hc])] at hio
      simp only [s204_1, l0, leq_N, hlt, decide_true, OX_some, gsel_tt, i0, i1, d0, d1, cmpF, fnD_fn, List.append_nil, c1, lss_c, hc, un_not, Bool.not_true, pick_t, WB_b, Bool.false_eq_true, if_false, Qseq_exit, Qblk_same]
      rw [hio]; exact hQ _
    | false =>
      rw [if_pos (by simp [hlt, hc])] at hio
      simp only [s204_1, l0, l1, leq_N, hlt, decide_true, OX_some, gsel_tt, i0, i1, d0, d1, cmpF, fnD_fn, List.append_nil, c1, m1, lss_c, hc, un_not, Bool.not_false, pick_t, WB_b, if_true, Qseq_normal]
      exact ⟨j + 1 - (i' + 1), by omega, i' + 1, _, rfl, hio, rfl, rfl⟩
  · rw [if_neg (by simp [hlt])] at hio
    simp only [s204_1, leq_N, hlt, decide_false, OX_some, gsel_ft, pick_f, WB_b, Bool.false_eq_true, if_false, Qseq_exit, Qblk_same]
    rw [hio]; exact hQ _

theorem sc204_0 {S : Store} {id n : Nat} {d : Array Row} (a i j : Nat) (x10 x47 x65 x70 : D) {Q : Ex → List D → Store → Prop} (hid : id < S.length) (hn : d.size = n) (ha : a < n) (hi : 1 ≤ i) (hj : j < n) (h9 : n ≤ 1000000)
    (hQ : ∀ x47 x65, Q .normal (mkf 90 [(0, arN id n), (1, iN a), (4, cmpF), (10, x10), (11, iN i), (12, iN (Go.Sort.scanDown (fun x => ltR d[a]! x) d i j)), (47, x47), (65, x65), (70, x70)]) (put S id d)) :
    W (call dp) (.loop [47] c204_0) (mkf 90 [(0, arN id n), (1, iN a), (4, cmpF), (10, x10), (11, iN i), (12, iN j), (47, x47), (65, x65), (70, x70)]) (put S id d) (Qblk 4 Q) := by
  let J : Nat → List D → Store → Prop := fun q fr S' => ∃ x47 x65, q ≤ j ∧ Go.Sort.scanDown (fun x => ltR d[a]! x) d i q = Go.Sort.scanDown (fun x => ltR d[a]! x) d i j ∧ S' = put S id d ∧ fr = mkf 90 [(0, arN id n), (1, iN a), (4, cmpF), (10, x10), (11, iN i), (12, iN q), (47, x47), (65, x65), (70, x70)]
  refine W_loop J ?_ j _ _ ⟨_, _, by omega, rfl, rfl, rfl⟩
  rintro q fr S' ⟨x47, x65, hq, hio, rfl, rfl⟩
  rw [← wp_W, e204_0]
  cases q with
  | zero =>
    have hlt : ¬ i ≤ 0 := by omega
    rw [Go.Sort.scanDown] at hio
    simp only [s204_0, leq_N, hlt, decide_false, OX_some, gsel_ft, pick_f, WB_b, Bool.false_eq_true, if_false, Qseq_exit, Qblk_same]
    rw [← hio] at hQ; exact hQ _ _
  | succ m =>
    rw [Go.Sort.scanDown] at hio
    by_cases hlt : i ≤ m + 1
    · have i0 := ia_N (id := id) ha
      have i1 := ia_N (id := id) (n := n) (k := m + 1) (by omega)
      have d0 := ld_N (d := d) (k := a) hid (by omega)
      have d1 := ld_N (d := d) (k := m + 1) hid (by omega)
      have c1 := v123 d[a]! d[m + 1]!
      have m1 : binD .sub .num (iN (m + 1)) (iN 1) = some (iN m) := sub_N (by omega) (by omega)
      cases hc : ltR d[a]! d[m + 1]! with
      | true =>
        rw [if_pos (by simp [hlt, hc])] at hio
        simp only [s204_0, l0, l1, leq_N, hlt, decide_true, OX_some, gsel_tt, i0, i1, d0, d1, cmpF, fnD_fn, List.append_nil, c1, m1, lss_c, hc, pick_t, WB_b, if_true, Qseq_normal]
        exact ⟨m, by omega, _, _, by omega, hio, rfl, rfl⟩
      | false =>
        rw [if_neg (by simp [hc])] at hio
        simp only [s204_0, l0, leq_N, hlt, decide_true, OX_some, gsel_tt, i0, i1, d0, d1, cmpF, fnD_fn, List.append_nil, c1, lss_c, hc, pick_t, WB_b, Bool.false_eq_true, if_false, Qseq_exit, Qblk_same]
        rw [hio]; exact hQ _ _
    · rw [if_neg (by simp [hlt])] at hio
      simp only [s204_0, leq_N, hlt, decide_false, OX_some, gsel_ft, pick_f, WB_b, Bool.false_eq_true, if_false, Qseq_exit, Qblk_same]
      rw [hio]; exact hQ _ _

theorem sc205_4 {S : Store} {id n : Nat} {d : Array Row} (a i j : Nat) (x10 x11 x47 x66 x120 x139 x144 : D) {Q : Ex → List D → Store → Prop} (hid : id < S.length) (hn : d.size = n) (ha : a < n) (hj : j < n) (h9 : n ≤ 1000000)
    (hQ : ∀ x47, Q .normal (mkf 178 [(0, arN id n), (1, iN a), (4, cmpF), (10, x10), (11, x11), (12, iN (Go.Sort.scanUp (fun x => ltR x d[a]!) d j i)), (13, iN j), (47, x47), (66, x66), (120, x120), (139, x139), (144, x144)]) (put S id d)) :
    W (call dp) (.loop [] c205_4) (mkf 178 [(0, arN id n), (1, iN a), (4, cmpF), (10, x10), (11, x11), (12, iN i), (13, iN j), (47, x47), (66, x66), (120, x120), (139, x139), (144, x144)]) (put S id d) (Qblk 0 Q) := by
  let J : Nat → List D → Store → Prop := fun q fr S' => ∃ i' x47, q = j + 1 - i' ∧ Go.Sort.scanUp (fun x => ltR x d[a]!) d j i' = Go.Sort.scanUp (fun x => ltR x d[a]!) d j i ∧ S' = put S id d ∧ fr = mkf 178 [(0, arN id n), (1, iN a), (4, cmpF), (10, x10), (11, x11), (12, iN i'), (13, iN j), (47, x47), (66, x66), (120, x120), (139, x139), (144, x144)]
  refine W_loop J ?_ (j + 1 - i) _ _ ⟨i, _, rfl, rfl, rfl, rfl⟩
  rintro q fr S' ⟨i', x47, rfl, hio, rfl, rfl⟩
  rw [← wp_W, e205_4]
  rw [Go.Sort.scanUp] at hio
  by_cases hlt : i' ≤ j
  · have i0 := ia_N (id := id) ha
    have i1 := ia_N (id := id) (n := n) (k := i') (by omega)
    have d0 := ld_N (d := d) (k := a) hid (by omega)
    have d1 := ld_N (d := d) (k := i') hid (by omega)
    have c1 := v123 d[i']! d[a]!
    have m1 : binD .add .num (iN i') (iN 1) = some (iN (i' + 1)) := add_N (by omega)
    cases hc : ltR d[i']! d[a]! with
    | true =>
      rw [if_pos (by simp [hlt, hc])] at hio
      simp only [s205_4, l0, l1, leq_N, hlt, decide_true, OX_some, gsel_tt, i0, i1, d0, d1, cmpF, fnD_fn, List.append_nil, c1, m1, lss_c, hc, pick_t, WB_b, if_true, Qseq_normal]
      exact ⟨j + 1 - (i' + 1), by omega, i' + 1, _, rfl, hio, rfl, rfl⟩
    | false =>
      rw [if_neg (by simp [hc])] at hio
      simp only [s205_4, l0, leq_N, hlt, decide_true, OX_some, gsel_tt, i0, i1, d0, d1, cmpF, fnD_fn, List.append_nil, c1, lss_c, hc, pick_t, WB_b, Bool.false_eq_true, if_false, Qseq_exit, Qblk_same]
      rw [hio]; exact hQ _
  · rw [if_neg (by simp [hlt])] at hio
    simp only [s205_4, leq_N, hlt, decide_false, OX_some, gsel_ft, pick_f, WB_b, Bool.false_eq_true, if_false, Qseq_exit, Qblk_same]
    rw [hio]; exact hQ _

theorem sc205_3 {S : Store} {id n : Nat} {d : Array Row} (a i j : Nat) (x10 x11 x47 x66 x120 x139 x144 : D) {Q : Ex → List D → Store → Prop} (hid : id < S.length) (hn : d.size = n) (ha : a < n) (hi : 1 ≤ i) (hj : j < n) (h9 : n ≤ 1000000)
    (hQ : ∀ x47 x66, Q .normal (mkf 178 [(0, arN id n), (1, iN a), (4, cmpF), (10, x10), (11, x11), (12, iN i), (13, iN (Go.Sort.scanDown (fun x => !ltR x d[a]!) d i j)), (47, x47), (66, x66), (120, x120), (139, x139), (144, x144)]) (put S id d)) :
    W (call dp) (.loop [47] c205_3) (mkf 178 [(0, arN id n), (1, iN a), (4, cmpF), (10, x10), (11, x11), (12, iN i), (13, iN j), (47, x47), (66, x66), (120, x120), (139, x139), (144, x144)]) (put S id d) (Qblk 2 Q) := by
  let J : Nat → List D → Store → Prop := fun q fr S' => ∃ x47 x66, q ≤ j ∧ Go.Sort.scanDown (fun x => !ltR x d[a]!) d i q = Go.Sort.scanDown (fun x => !ltR x d[a]!) d i j ∧ S' = put S id d ∧ fr = mkf 178 [(0, arN id n), (1, iN a), (4, cmpF), (10, x10), (11, x11), (12, iN i), (13, iN q), (47, x47), (66, x66), (120, x120), (139, x139), (144, x144)]
  refine W_loop J ?_ j _ _ ⟨_, _, by omega, rfl, rfl, rfl⟩
  rintro q fr S' ⟨x47, x66, hq, hio, rfl, rfl⟩
  rw [← wp_W, e205_3]
  cases q with
  | zero =>
    have hlt : ¬ i ≤ 0 := by omega
    rw [Go.Sort.scanDown] at hio
    simp only [s205_3, leq_N, hlt, decide_false, OX_some, gsel_ft, pick_f, WB_b, Bool.false_eq_true, if_false, Qseq_exit, Qblk_same]
    rw [← hio] at hQ; exact hQ _ _
  | succ m =>
    rw [Go.Sort.scanDown] at hio
    by_cases hlt : i ≤ m + 1
    · have i0 := ia_N (id := id) ha
      have i1 := ia_N (id := id) (n := n) (k := m + 1) (by omega)
      have d0 := ld_N (d := d) (k := a) hid (by omega)
      have d1 := ld_N (d := d) (k := m + 1) hid (by omega)
      have c1 := v123 d[m + 1]! d[a]!
      have m1 : binD .sub .num (iN (m + 1)) (iN 1) = some (iN m) := sub_N (by omega) (by omega)
      cases hc : ltR d[m + 1]! d[a]! with
      | true =>
        rw [if_neg (by simp [hc])] at hio
        simp only [s205_3, l0, leq_N, hlt, decide_true, OX_some, gsel_tt, i0, i1, d0, d1, cmpF, fnD_fn, List.append_nil, c1, lss_c, hc, un_not, Bool.not_true, pick_t, WB_b, Bool.false_eq_true, if_false, Qseq_exit, Qblk_same]
        rw [hio]; exact hQ _ _
      | false =>
        rw [if_pos (by simp [hlt, hc])] at hio
        simp only [s205_3, l0, l1, leq_N, hlt, decide_true, OX_some, gsel_tt, i0, i1, d0, d1, cmpF, fnD_fn, List.append_nil, c1, m1, lss_c, hc, un_not, Bool.not_false, pick_t, WB_b, if_true, Qseq_normal]
        exact ⟨m, by omega, _, _, by omega, hio, rfl, rfl⟩
    · rw [if_neg (by simp [hlt])] at hio
      simp only [s205_3, leq_N, hlt, decide_false, OX_some, gsel_ft, pick_f, WB_b, Bool.false_eq_true, if_false, Qseq_exit, Qblk_same]
      rw [hio]; exact hQ _ _

theorem sc205_1 {S : Store} {id n : Nat} {d : Array Row} (a i j : Nat) (x10 x11 x47 x66 x120 x139 x144 : D) {Q : Ex → List D → Store → Prop} (hid : id < S.length) (hn : d.size = n) (ha : a < n) (hj : j < n) (h9 : n ≤ 1000000)
    (hQ : ∀ x120, Q .normal (mkf 178 [(0, arN id n), (1, iN a), (4, cmpF), (10, x10), (11, x11), (12, iN (Go.Sort.scanUp (fun x => ltR x d[a]!) d j i)), (13, iN j), (47, x47), (66, x66), (120, x120), (139, x139), (144, x144)]) (put S id d)) :
    W (call dp) (.loop [] c205_1) (mkf 178 [(0, arN id n), (1, iN a), (4, cmpF), (10, x10), (11, x11), (12, iN i), (13, iN j), (47, x47), (66, x66), (120, x120), (139, x139), (144, x144)]) (put S id d) (Qblk 6 Q) := by
  let J : Nat → List D → Store → Prop := fun q fr S' => ∃ i' x120, q = j + 1 - i' ∧ Go.Sort.scanUp (fun x => ltR x d[a]!) d j i' = Go.Sort.scanUp (fun x => ltR x d[a]!) d j i ∧ S' = put S id d ∧ fr = mkf 178 [(0, arN id n), (1, iN a), (4, cmpF), (10, x10), (11, x11), (12, iN i'), (13, iN j), (47, x47), (66, x66), (120, x120), (139, x139), (144, x144)]
  refine W_loop J ?_ (j + 1 - i) _ _ ⟨i, _, rfl, rfl, rfl, rfl⟩
  rintro q fr S' ⟨i', x120, rfl, hio, rfl, rfl⟩
  rw [← wp_W, e205_1]
  rw [Go.Sort.scanUp] at hio
  by_cases hlt : i' ≤ j
  · have i0 := ia_N (id := id) ha
    have i1 := ia_N (id := id) (n := n) (k := i') (by omega)
    have d0 := ld_N (d := d) (k := a) hid (by omega)
    have d1 := ld_N (d := d) (k := i') hid (by omega)
    have c1 := v123 d[i']! d[a]!
    have m1 : binD .add .num (iN i') (iN 1) = some (iN (i' + 1)) := add_N (by omega)
    cases hc : ltR d[i']! d[a]! with
    | true =>
      rw [if_pos (by simp [hlt, hc])] at hio
      simp only [s205_1, l0, l1, leq_N, hlt, decide_true, OX_some, gsel_tt, i0, i1, d0, d1, cmpF, fnD_fn, List.append_nil, c1, m1, lss_c, hc, pick_t, WB_b, if_true, Qseq_normal]
      exact ⟨j + 1 - (i' + 1), by omega, i' + 1, _, rfl, hio, rfl, rfl⟩
    | false =>
      rw [if_neg (by simp [hc])] at hio
      simp only [s205_1, l0, leq_N, hlt, decide_true, OX_some, gsel_tt, i0, i1, d0, d1, cmpF, fnD_fn, List.append_nil, c1, lss_c, hc, pick_t, WB_b, Bool.false_eq_true, if_false, Qseq_exit, Qblk_same]
      rw [hio]; exact hQ _
  · rw [if_neg (by simp [hlt])] at hio
    simp only [s205_1, leq_N, hlt, decide_false, OX_some, gsel_ft, pick_f, WB_b, Bool.false_eq_true, if_false, Qseq_exit, Qblk_same]
    rw [hio]; exact hQ _

theorem sc205_0 {S : Store} {id n : Nat} {d : Array Row} (a i j : Nat) (x10 x11 x47 x66 x120 x139 x144 : D) {Q : Ex → List D → Store → Prop} (hid : id < S.length) (hn : d.size = n) (ha : a < n) (hi : 1 ≤ i) (hj : j < n) (h9 : n ≤ 1000000)
    (hQ : ∀ x120 x139, Q .normal (mkf 178 [(0, arN id n), (1, iN a), (4, cmpF), (10, x10), (11, x11), (12, iN i), (13, iN (Go.Sort.scanDown (fun x => !ltR x d[a]!) d i j)), (47, x47), (66, x66), (120, x120), (139, x139), (144, x144)]) (put S id d)) :
    W (call dp) (.loop [120] c205_0) (mkf 178 [(0, arN id n), (1, iN a), (4, cmpF), (10, x10), (11, x11), (12, iN i), (13, iN j), (47, x47), (66, x66), (120, x120), (139, x139), (144, x144)]) (put S id d) (Qblk 8 Q) := by
  let J : Nat → List D → Store → Prop := fun q fr S' => ∃ x120 x139, q ≤ j ∧ Go.Sort.scanDown (fun x => !ltR x d[a]!) d i q = Go.Sort.scanDown (fun x => !ltR x d[a]!) d i j ∧ S' = put S id d ∧ fr = mkf 178 [(0, arN id n), (1, iN a), (4, cmpF), (10, x10), (11, x11), (12, iN i), (13, iN q), (47, x47), (66, x66), (120, x120), (139, x139), (144, x144)]
  refine W_loop J ?_ j _ _ ⟨_, _, by omega, rfl, rfl, rfl⟩
  rintro q fr S' ⟨x120, x139, hq, hio, rfl, rfl⟩
  rw [← wp_W, e205_0]
  cases q with
  | zero =>
    have hlt : ¬ i ≤ 0 := by omega
    rw [Go.Sort.scanDown] at hio
    simp only [s205_0, leq_N, hlt, decide_false, OX_some, gsel_ft, pick_f, WB_b, Bool.false_eq_true, if_false, Qseq_exit, Qblk_same]
    rw [← hio] at hQ; exact hQ _ _
  | succ m =>
    rw [Go.Sort.scanDown] at hio
    by_cases hlt : i ≤ m + 1
    · have i0 := ia_N (id := id) ha
      have i1 := ia_N (id := id) (n := n) (k := m + 1) (by omega)
      have d0 := ld_N (d := d) (k := a) hid (by omega)
      have d1 := ld_N (d := d) (k := m + 1) hid (by omega)
      have c1 := v123 d[m + 1]! d[a]!
      have m1 : binD .sub .num (iN (m + 1)) (iN 1) = some (iN m) := sub_N (by omega) (by omega)
      cases hc : ltR d[m + 1]! d[a]! with
      | true =>
        rw [if_neg (by simp [hc])] at hio
        simp only [s205_0, l0, leq_N, hlt, decide_true, OX_some, gsel_tt, i0, i1, d0, d1, cmpF, fnD_fn, List.append_nil, c1, lss_c, hc, un_not, Bool.not_true, pick_t, WB_b, Bool.false_eq_true, if_false, Qseq_exit, Qblk_same]
        rw [hio]; exact hQ _ _
      | false =>
        rw [if_pos (by simp [hlt, hc])] at hio
        simp only [s205_0, l0, l1, leq_N, hlt, decide_true, OX_some, gsel_tt, i0, i1, d0, d1, cmpF, fnD_fn, List.append_nil, c1, m1, lss_c, hc, un_not, Bool.not_false, pick_t, WB_b, if_true, Qseq_normal]
        exact ⟨m, by omega, _, _, by omega, hio, rfl, rfl⟩
    · rw [if_neg (by simp [hlt])] at hio
      simp only [s205_0, leq_N, hlt, decide_false, OX_some, gsel_ft, pick_f, WB_b, Bool.false_eq_true, if_false, Qseq_exit, Qblk_same]
      rw [hio]; exact hQ _ _

end Go.Proofs.YtjlmeikcfdanmaaGreatDoor.DE.V

namespace Go.Proofs.YtjlmeikcfdanmaaGreatDoor.DE.V
open Go

theorem scanUp_le (p : Row → Bool) (d : Array Row) (j i : Nat) : Go.Sort.scanUp p d j i ≤ max i (j + 1) := by
  fun_induction Go.Sort.scanUp p d j i
  · rename_i h ih
    simp at h; omega
  · omega

theorem v204 {S : Store} {id n : Nat} {d : Array Row} (a b pv : Nat) (hid : id < S.length) (hn : d.size = n) (ha : a ≤ pv) (hp : pv < b) (hb : b ≤ n) (h9 : n ≤ 1000000) :
    call dp 204 [arN id n, iN a, iN b, iN pv, cmpF] (put S id d) = some (iN (Go.Sort.partitionEqual ltR d a b pv).1, put S id (Go.Sort.partitionEqual ltR d a b pv).2) := by
  obtain ⟨r, S', e, rfl, rfl⟩ := f204 (arN id n) (iN a) (iN b) (iN pv) cmpF (put S id d) (fun r S' => r = iN (Go.Sort.partitionEqual ltR d a b pv).1 ∧ S' = put S id (Go.Sort.partitionEqual ltR d a b pv).2) (by
    have i0 := ia_N (id := id) (n := n) (k := a) (by omega)
    have i1 := ia_N (id := id) (n := n) (k := pv) (by omega)
    have d0 := ld_N (d := d) (k := a) hid (by omega)
    have d1 := ld_N (d := d) (k := pv) hid (by omega)
    have s1 := st_N (d := d) (k := a) d[pv]! hid (by omega)
    have s2 := st_N (d := d.setIfInBounds a d[pv]!) (k := pv) d[a]! hid (by simp; omega)
    have m1 : binD .add .num (iN a) (iN 1) = some (iN (a + 1)) := add_N (by omega)
    have m2 : binD .sub .num (iN b) (iN 1) = some (iN (b - 1)) := sub_N (by omega) (by omega)
    simp only [s204, l1, i0, i1, d0, d1, OX_some, s1, s2, m1, m2]
    let J : Nat → List D → Store → Prop := fun q fr S' => ∃ i j d' x10 x47 x65 x70, q = j + 1 - i ∧ a < i ∧ i ≤ n ∧ j < n ∧ d'.size = n ∧ Go.Sort.partEqLoop ltR a i j d' = Go.Sort.partitionEqual ltR d a b pv ∧ S' = put S id d' ∧
      fr = mkf 90 [(0, arN id n), (1, iN a), (4, cmpF), (10, x10), (11, iN i), (12, iN j), (47, x47), (65, x65), (70, x70)]
    refine W_loop J ?_ (b - 1 + 1 - (a + 1)) _ _ ⟨a + 1, b - 1, Go.Sort.swp d a pv, _, _, _, _, rfl, by omega, by omega, by omega, (swp_size _ _ _).trans hn, rfl, rfl, rfl⟩
    rintro q fr S' ⟨i, j, d', x10, x47, x65, x70, rfl, hai, hij, hj, hn', hio, rfl, rfl⟩
    rw [← wp_W, e204_2]
    rw [Go.Sort.partEqLoop_eq] at hio
    simp only [s204_2]
    refine sc204_1 a i j _ _ _ _ hid hn' (by omega) hj h9 ?_
    intro x47
    have u1 := Go.Sort.scanUp_ge (fun x => !ltR d'[a]! x) d' j i
    have u2 := scanUp_le (fun x => !ltR d'[a]! x) d' j i
    generalize Go.Sort.scanUp (fun x => !ltR d'[a]! x) d' j i = i2 at *
    simp only [QS_normal, e204_r1, s204_r1]
    refine sc204_0 a i2 j _ _ _ _ hid hn' (by omega) (by omega) hj h9 ?_
    intro x47 x65
    have v1 := Go.Sort.scanDown_le (fun x => ltR d'[a]! x) d' i2 j
    generalize Go.Sort.scanDown (fun x => ltR d'[a]! x) d' i2 j = j2 at *
    simp only [QS_normal, e204_r0]
    by_cases h : j2 < i2
    · rw [if_pos h] at hio
      simp only [s204_r0, gtr_N, h, decide_true, OX_some, WB_b, if_true, Qblk_other 1 0 rfl, Qseq_exit, Qblk_same, QS_normal, e204_r2, s204_r2, FinK_ret1]
      simp [← hio]
    · rw [if_neg h] at hio
      have i0 := ia_N (id := id) (n := n) (k := i2) (by omega)
      have i1 := ia_N (id := id) (n := n) (k := j2) (by omega)
      have d0 := ld_N (d := d') (k := i2) hid (by omega)
      have d1 := ld_N (d := d') (k := j2) hid (by omega)
      have s1 := st_N (d := d') (k := i2) d'[j2]! hid (by omega)
      have s2 := st_N (d := d'.setIfInBounds i2 d'[j2]!) (k := j2) d'[i2]! hid (by simp; omega)
      have m1 : binD .add .num (iN i2) (iN 1) = some (iN (i2 + 1)) := add_N (by omega)
      have m2 : binD .sub .num (iN j2) (iN 1) = some (iN (j2 - 1)) := sub_N (by omega) (by omega)
      simp only [s204_r0, l1, gtr_N, h, decide_false, OX_some, WB_b, Bool.false_eq_true, if_false, i0, i1, d0, d1, s1, s2, m1, m2, Qblk_normal, Qseq_normal]
      exact ⟨j2 - 1 + 1 - (i2 + 1), by omega, i2 + 1, j2 - 1, Go.Sort.swp d' i2 j2, _, _, _, _, rfl, by omega, by omega, by omega, (swp_size _ _ _).trans hn', hio, rfl, rfl⟩)
  exact e

theorem v205 {S : Store} {id n : Nat} {d : Array Row} (a b pv : Nat) (hid : id < S.length) (hn : d.size = n) (ha : a ≤ pv) (hp : pv < b) (hb : b ≤ n) (h9 : n ≤ 1000000) :
    call dp 205 [arN id n, iN a, iN b, iN pv, cmpF] (put S id d) = some (.tup [iN (Go.Sort.partition ltR d a b pv).1, .b (Go.Sort.partition ltR d a b pv).2.1], put S id (Go.Sort.partition ltR d a b pv).2.2) := by
  obtain ⟨P, hP⟩ : ∃ P, P = Go.Sort.partition ltR d a b pv := ⟨_, rfl⟩
  rw [← hP]
  obtain ⟨r, S', e, rfl, rfl⟩ := f205 (arN id n) (iN a) (iN b) (iN pv) cmpF (put S id d) (fun r S' => r = .tup [iN P.1, .b P.2.1] ∧ S' = put S id P.2.2) (by
    have i0 := ia_N (id := id) (n := n) (k := a) (by omega)
    have i1 := ia_N (id := id) (n := n) (k := pv) (by omega)
    have d0 := ld_N (d := d) (k := a) hid (by omega)
    have d1 := ld_N (d := d) (k := pv) hid (by omega)
    have s1 := st_N (d := d) (k := a) d[pv]! hid (by omega)
    have s2 := st_N (d := d.setIfInBounds a d[pv]!) (k := pv) d[a]! hid (by simp; omega)
    have m1 : binD .add .num (iN a) (iN 1) = some (iN (a + 1)) := add_N (by omega)
    have m2 : binD .sub .num (iN b) (iN 1) = some (iN (b - 1)) := sub_N (by omega) (by omega)
    have hsw : (d.setIfInBounds a d[pv]!).setIfInBounds pv d[a]! = Go.Sort.swp d a pv := rfl
    simp only [s205, l1, i0, i1, d0, d1, OX_some, s1, s2, m1, m2, hsw]
    simp only [Go.Sort.partition] at hP
    have hn1 : (Go.Sort.swp d a pv).size = n := (swp_size _ _ _).trans hn
    generalize Go.Sort.swp d a pv = e at *
    refine sc205_4 a (a + 1) (b - 1) _ _ _ _ _ _ _ hid hn1 (by omega) (by omega) h9 ?_
    intro x47
    have u1 := Go.Sort.scanUp_ge (fun x => ltR x e[a]!) e (b - 1) (a + 1)
    have u2 := scanUp_le (fun x => ltR x e[a]!) e (b - 1) (a + 1)
    generalize Go.Sort.scanUp (fun x => ltR x e[a]!) e (b - 1) (a + 1) = i at *
    simp only [QS_normal, e205_r4, s205_r4]
    refine sc205_3 a i (b - 1) _ _ _ _ _ _ _ hid hn1 (by omega) (by omega) (by omega) h9 ?_
    intro x47 x66
    have v1 := Go.Sort.scanDown_le (fun x => !ltR x e[a]!) e i (b - 1)
    generalize Go.Sort.scanDown (fun x => !ltR x e[a]!) e i (b - 1) = j at *
    simp only [QS_normal, e205_r3]
    have i0 := ia_N (id := id) (n := n) (k := a) (by omega)
    have i1 := ia_N (id := id) (n := n) (k := j) (by omega)
    have d0 := ld_N (d := e) (k := a) hid (by omega)
    have d1 := ld_N (d := e) (k := j) hid (by omega)
    by_cases h : j < i
    · rw [if_pos h] at hP
      have s1 := st_N (d := e) (k := j) e[a]! hid (by omega)
      have s2 := st_N (d := e.setIfInBounds j e[a]!) (k := a) e[j]! hid (by simp; omega)
      subst hP
      simp only [s205_r3, gtr_N, h, decide_true, OX_some, WB_b, if_true, i0, i1, d0, d1, s1, s2, FinK_ret2]
      exact ⟨rfl, rfl⟩
    · rw [if_neg h] at hP
      have i2 := ia_N (id := id) (n := n) (k := i) (by omega)
      have d2 := ld_N (d := e) (k := i) hid (by omega)
      have s1 := st_N (d := e) (k := i) e[j]! hid (by omega)
      have s2 := st_N (d := e.setIfInBounds i e[j]!) (k := j) e[i]! hid (by simp; omega)
      have m1 : binD .add .num (iN i) (iN 1) = some (iN (i + 1)) := add_N (by omega)
      have m2 : binD .sub .num (iN j) (iN 1) = some (iN (j - 1)) := sub_N (by omega) (by omega)
      simp only [s205_r3, l1, gtr_N, h, decide_false, OX_some, WB_b, Bool.false_eq_true, if_false, i1, i2, d1, d2, s1, s2, m1, m2]
      let J : Nat → List D → Store → Prop := fun q fr S' => ∃ i j d' x10 x11 x47 x66 x120 x139 x144, q = j + 1 - i ∧ a < i ∧ i ≤ n ∧ j < n ∧ d'.size = n ∧
        P = (let r := Go.Sort.partLoop ltR a i j d'; (r.1, false, Go.Sort.swp r.2 r.1 a)) ∧ S' = put S id d' ∧
        fr = mkf 178 [(0, arN id n), (1, iN a), (4, cmpF), (10, x10), (11, x11), (12, iN i), (13, iN j), (47, x47), (66, x66), (120, x120), (139, x139), (144, x144)]
      refine W_loop J ?_ (j - 1 + 1 - (i + 1)) _ _ ⟨i + 1, j - 1, Go.Sort.swp e i j, _, _, _, _, _, _, _, rfl, by omega, by omega, by omega, (swp_size _ _ _).trans hn1, hP, rfl, rfl⟩
      clear hP i0 i1 i2 d0 d1 d2 s1 s2 m1 m2
      rintro q fr S' ⟨i, j, d', x10, x11, x47, x66, x120, x139, x144, rfl, hai, hij, hj, hn', hP, rfl, rfl⟩
      rw [← wp_W, e205_2]
      rw [Go.Sort.partLoop_eq] at hP
      simp only [s205_2]
      refine sc205_1 a i j _ _ _ _ _ _ _ hid hn' (by omega) hj h9 ?_
      intro x120
      have u1 := Go.Sort.scanUp_ge (fun x => ltR x d'[a]!) d' j i
      have u2 := scanUp_le (fun x => ltR x d'[a]!) d' j i
      generalize Go.Sort.scanUp (fun x => ltR x d'[a]!) d' j i = i2 at *
      simp only [QS_normal, e205_r1, s205_r1]
      refine sc205_0 a i2 j _ _ _ _ _ _ _ hid hn' (by omega) (by omega) hj h9 ?_
      intro x120 x139
      have v1 := Go.Sort.scanDown_le (fun x => !ltR x d'[a]!) d' i2 j
      generalize Go.Sort.scanDown (fun x => !ltR x d'[a]!) d' i2 j = j2 at *
      simp only [QS_normal, e205_r0]
      by_cases h : j2 < i2
      · rw [if_pos h] at hP
        have i0 := ia_N (id := id) (n := n) (k := a) (by omega)
        have i1 := ia_N (id := id) (n := n) (k := j2) (by omega)
        have d0 := ld_N (d := d') (k := a) hid (by omega)
        have d1 := ld_N (d := d') (k := j2) hid (by omega)
        have s1 := st_N (d := d') (k := j2) d'[a]! hid (by omega)
        have s2 := st_N (d := d'.setIfInBounds j2 d'[a]!) (k := a) d'[j2]! hid (by simp; omega)
        subst hP
        simp only [s205_r0, gtr_N, h, decide_true, OX_some, WB_b, if_true, Qblk_other 5 4 rfl, Qseq_exit, Qblk_same, QS_normal, e205_r2, s205_r2, i0, i1, d0, d1, s1, s2]
        exact ⟨rfl, rfl⟩
      · rw [if_neg h] at hP
        have i0 := ia_N (id := id) (n := n) (k := i2) (by omega)
        have i1 := ia_N (id := id) (n := n) (k := j2) (by omega)
        have d0 := ld_N (d := d') (k := i2) hid (by omega)
        have d1 := ld_N (d := d') (k := j2) hid (by omega)
        have s1 := st_N (d := d') (k := i2) d'[j2]! hid (by omega)
        have s2 := st_N (d := d'.setIfInBounds i2 d'[j2]!) (k := j2) d'[i2]! hid (by simp; omega)
        have m1 : binD .add .num (iN i2) (iN 1) = some (iN (i2 + 1)) := add_N (by omega)
        have m2 : binD .sub .num (iN j2) (iN 1) = some (iN (j2 - 1)) := sub_N (by omega) (by omega)
        simp only [s205_r0, l1, gtr_N, h, decide_false, OX_some, WB_b, Bool.false_eq_true, if_false, i0, i1, d0, d1, s1, s2, m1, m2, Qblk_normal, Qseq_normal]
        exact ⟨j2 - 1 + 1 - (i2 + 1), by omega, i2 + 1, j2 - 1, Go.Sort.swp d' i2 j2, _, _, _, _, _, _, _, rfl, by omega, by omega, by omega, (swp_size _ _ _).trans hn', hP, rfl, rfl⟩)
  exact e

end Go.Proofs.YtjlmeikcfdanmaaGreatDoor.DE.V

namespace Go.Proofs.YtjlmeikcfdanmaaGreatDoor.DE.V
open Go
set_option maxRecDepth 20000

def uN (k : Nat) : D := .i .u64 (k : Int)

theorem wrapU (n : Int) : ∃ y : Nat, y < 18446744073709551616 ∧ IntKind.wrap .u64 n = y := by
  have e : IntKind.wrap .u64 n = n % 18446744073709551616 := by simp [IntKind.wrap, IntKind.signed, IntKind.bits]
  rw [e]
  exact ⟨(n % 18446744073709551616).toNat, by omega, by omega⟩
theorem wrapUN {n : Nat} (h : n < 18446744073709551616) : IntKind.wrap .u64 (n : Int) = n := by
  have e : (n : Int) % 18446744073709551616 = n := by omega
  simp [IntKind.wrap, IntKind.signed, IntKind.bits, e]
theorem wrapB {n : Nat} (h : n < 256) : IntKind.wrap .u8 (n : Int) = n := by
  have e : (n : Int) % 256 = n := by omega
  simp [IntKind.wrap, IntKind.signed, IntKind.bits, e]
theorem cv (k k' : IntKind) (n : Int) : convD k (.i k' n) = some (.i k (k.wrap n)) := (rfl)
theorem cv1 {l : Nat} (h : l < 4000000000) : convD .u64 (iN l) = some (uN l) := by rw [iN, cv, wrapUN (by omega)]; rfl
theorem cv2 {l : Nat} (h : l < 256) : convD .u8 (uN l) = some (.i .u8 l) := by rw [uN, cv, wrapB h]
theorem cv3 {k : IntKind} {l : Nat} (h : l < 4000000000) : convD .i64 (.i k l) = some (iN l) := by rw [cv, wrap64 ⟨by omega, by omega⟩]; rfl

theorem len50 : ∀ l : Nat, l < 50 → ([0, 1, 2, 2, 3, 3, 3, 3, 4, 4, 4, 4, 4, 4, 4, 4, 5, 5, 5, 5, 5, 5, 5, 5, 5, 5, 5, 5, 5, 5, 5, 5, 6, 6, 6, 6, 6, 6, 6, 6, 6, 6, 6, 6, 6, 6, 6, 6, 6, 6, 6, 6, 6, 6, 6, 6, 6, 6, 6, 6, 6, 6, 6, 6, 7, 7, 7, 7, 7, 7, 7, 7, 7, 7, 7, 7, 7, 7, 7, 7, 7, 7, 7, 7, 7, 7, 7, 7, 7, 7, 7, 7, 7, 7, 7, 7, 7, 7, 7, 7, 7, 7, 7, 7, 7, 7, 7, 7, 7, 7, 7, 7, 7, 7, 7, 7, 7, 7, 7, 7, 7, 7, 7, 7, 7, 7, 7, 7, 8, 8, 8, 8, 8, 8, 8, 8, 8, 8, 8, 8, 8, 8, 8, 8, 8, 8, 8, 8, 8, 8, 8, 8, 8, 8, 8, 8, 8, 8, 8, 8, 8, 8, 8, 8, 8, 8, 8, 8, 8, 8, 8, 8, 8, 8, 8, 8, 8, 8, 8, 8, 8, 8, 8, 8, 8, 8, 8, 8, 8, 8, 8, 8, 8, 8, 8, 8, 8, 8, 8, 8, 8, 8, 8, 8, 8, 8, 8, 8, 8, 8, 8, 8, 8, 8, 8, 8, 8, 8, 8, 8, 8, 8, 8, 8, 8, 8, 8, 8, 8, 8, 8, 8, 8, 8, 8, 8, 8, 8, 8, 8, 8, 8, 8, 8, 8, 8, 8, 8, 8, 8, 8, 8, 8, 8, 8, 8] : List UInt8)[l]? = some (([0, 1, 2, 2, 3, 3, 3, 3, 4, 4, 4, 4, 4, 4, 4, 4, 5, 5, 5, 5, 5, 5, 5, 5, 5, 5, 5, 5, 5, 5, 5, 5, 6, 6, 6, 6, 6, 6, 6, 6, 6, 6, 6, 6, 6, 6, 6, 6, 6, 6, 6, 6, 6, 6, 6, 6, 6, 6, 6, 6, 6, 6, 6, 6, 7, 7, 7, 7, 7, 7, 7, 7, 7, 7, 7, 7, 7, 7, 7, 7, 7, 7, 7, 7, 7, 7, 7, 7, 7, 7, 7, 7, 7, 7, 7, 7, 7, 7, 7, 7, 7, 7, 7, 7, 7, 7, 7, 7, 7, 7, 7, 7, 7, 7, 7, 7, 7, 7, 7, 7, 7, 7, 7, 7, 7, 7, 7, 7, 8, 8, 8, 8, 8, 8, 8, 8, 8, 8, 8, 8, 8, 8, 8, 8, 8, 8, 8, 8, 8, 8, 8, 8, 8, 8, 8, 8, 8, 8, 8, 8, 8, 8, 8, 8, 8, 8, 8, 8, 8, 8, 8, 8, 8, 8, 8, 8, 8, 8, 8, 8, 8, 8, 8, 8, 8, 8, 8, 8, 8, 8, 8, 8, 8, 8, 8, 8, 8, 8, 8, 8, 8, 8, 8, 8, 8, 8, 8, 8, 8, 8, 8, 8, 8, 8, 8, 8, 8, 8, 8, 8, 8, 8, 8, 8, 8, 8, 8, 8, 8, 8, 8, 8, 8, 8, 8, 8, 8, 8, 8, 8, 8, 8, 8, 8, 8, 8, 8, 8, 8, 8, 8, 8, 8, 8, 8, 8] : List UInt8)[l]?.getD 0) ∧ (([0, 1, 2, 2, 3, 3, 3, 3, 4, 4, 4, 4, 4, 4, 4, 4, 5, 5, 5, 5, 5, 5, 5, 5, 5, 5, 5, 5, 5, 5, 5, 5, 6, 6, 6, 6, 6, 6, 6, 6, 6, 6, 6, 6, 6, 6, 6, 6, 6, 6, 6, 6, 6, 6, 6, 6, 6, 6, 6, 6, 6, 6, 6, 6, 7, 7, 7, 7, 7, 7, 7, 7, 7, 7, 7, 7, 7, 7, 7, 7, 7, 7, 7, 7, 7, 7, 7, 7, 7, 7, 7, 7, 7, 7, 7, 7, 7, 7, 7, 7, 7, 7, 7, 7, 7, 7, 7, 7, 7, 7, 7, 7, 7, 7, 7, 7, 7, 7, 7, 7, 7, 7, 7, 7, 7, 7, 7, 7, 8, 8, 8, 8, 8, 8, 8, 8, 8, 8, 8, 8, 8, 8, 8, 8, 8, 8, 8, 8, 8, 8, 8, 8, 8, 8, 8, 8, 8, 8, 8, 8, 8, 8, 8, 8, 8, 8, 8, 8, 8, 8, 8, 8, 8, 8, 8, 8, 8, 8, 8, 8, 8, 8, 8, 8, 8, 8, 8, 8, 8, 8, 8, 8, 8, 8, 8, 8, 8, 8, 8, 8, 8, 8, 8, 8, 8, 8, 8, 8, 8, 8, 8, 8, 8, 8, 8, 8, 8, 8, 8, 8, 8, 8, 8, 8, 8, 8, 8, 8, 8, 8, 8, 8, 8, 8, 8, 8, 8, 8, 8, 8, 8, 8, 8, 8, 8, 8, 8, 8, 8, 8, 8, 8, 8, 8, 8, 8] : List UInt8)[l]?.getD 0).toNat ≤ 6 ∧ (1 ≤ l → 2 ^ (([0, 1, 2, 2, 3, 3, 3, 3, 4, 4, 4, 4, 4, 4, 4, 4, 5, 5, 5, 5, 5, 5, 5, 5, 5, 5, 5, 5, 5, 5, 5, 5, 6, 6, 6, 6, 6, 6, 6, 6, 6, 6, 6, 6, 6, 6, 6, 6, 6, 6, 6, 6, 6, 6, 6, 6, 6, 6, 6, 6, 6, 6, 6, 6, 7, 7, 7, 7, 7, 7, 7, 7, 7, 7, 7, 7, 7, 7, 7, 7, 7, 7, 7, 7, 7, 7, 7, 7, 7, 7, 7, 7, 7, 7, 7, 7, 7, 7, 7, 7, 7, 7, 7, 7, 7, 7, 7, 7, 7, 7, 7, 7, 7, 7, 7, 7, 7, 7, 7, 7, 7, 7, 7, 7, 7, 7, 7, 7, 8, 8, 8, 8, 8, 8, 8, 8, 8, 8, 8, 8, 8, 8, 8, 8, 8, 8, 8, 8, 8, 8, 8, 8, 8, 8, 8, 8, 8, 8, 8, 8, 8, 8, 8, 8, 8, 8, 8, 8, 8, 8, 8, 8, 8, 8, 8, 8, 8, 8, 8, 8, 8, 8, 8, 8, 8, 8, 8, 8, 8, 8, 8, 8, 8, 8, 8, 8, 8, 8, 8, 8, 8, 8, 8, 8, 8, 8, 8, 8, 8, 8, 8, 8, 8, 8, 8, 8, 8, 8, 8, 8, 8, 8, 8, 8, 8, 8, 8, 8, 8, 8, 8, 8, 8, 8, 8, 8, 8, 8, 8, 8, 8, 8, 8, 8, 8, 8, 8, 8, 8, 8, 8, 8, 8, 8, 8, 8] : List UInt8)[l]?.getD 0).toNat ≤ 2 * l) := by decide

theorem v207 (l : Nat) (h : l < 50) : ∃ v : Nat, isoCall (call dp) 207 [uN l] = some (iN v) ∧ v ≤ 6 ∧ (1 ≤ l → 2 ^ v ≤ 2 * l) := by
  obtain ⟨h1, h2, h3⟩ := len50 l h
  refine ⟨_, ?_, h2, h3⟩
  generalize hc : ([0, 1, 2, 2, 3, 3, 3, 3, 4, 4, 4, 4, 4, 4, 4, 4, 5, 5, 5, 5, 5, 5, 5, 5, 5, 5, 5, 5, 5, 5, 5, 5, 6, 6, 6, 6, 6, 6, 6, 6, 6, 6, 6, 6, 6, 6, 6, 6, 6, 6, 6, 6, 6, 6, 6, 6, 6, 6, 6, 6, 6, 6, 6, 6, 7, 7, 7, 7, 7, 7, 7, 7, 7, 7, 7, 7, 7, 7, 7, 7, 7, 7, 7, 7, 7, 7, 7, 7, 7, 7, 7, 7, 7, 7, 7, 7, 7, 7, 7, 7, 7, 7, 7, 7, 7, 7, 7, 7, 7, 7, 7, 7, 7, 7, 7, 7, 7, 7, 7, 7, 7, 7, 7, 7, 7, 7, 7, 7, 8, 8, 8, 8, 8, 8, 8, 8, 8, 8, 8, 8, 8, 8, 8, 8, 8, 8, 8, 8, 8, 8, 8, 8, 8, 8, 8, 8, 8, 8, 8, 8, 8, 8, 8, 8, 8, 8, 8, 8, 8, 8, 8, 8, 8, 8, 8, 8, 8, 8, 8, 8, 8, 8, 8, 8, 8, 8, 8, 8, 8, 8, 8, 8, 8, 8, 8, 8, 8, 8, 8, 8, 8, 8, 8, 8, 8, 8, 8, 8, 8, 8, 8, 8, 8, 8, 8, 8, 8, 8, 8, 8, 8, 8, 8, 8, 8, 8, 8, 8, 8, 8, 8, 8, 8, 8, 8, 8, 8, 8, 8, 8, 8, 8, 8, 8, 8, 8, 8, 8, 8, 8, 8, 8, 8, 8, 8, 8] : List UInt8)[l]?.getD 0 = c at *
  have hix : ixsD (.s ([0, 1, 2, 2, 3, 3, 3, 3, 4, 4, 4, 4, 4, 4, 4, 4, 5, 5, 5, 5, 5, 5, 5, 5, 5, 5, 5, 5, 5, 5, 5, 5, 6, 6, 6, 6, 6, 6, 6, 6, 6, 6, 6, 6, 6, 6, 6, 6, 6, 6, 6, 6, 6, 6, 6, 6, 6, 6, 6, 6, 6, 6, 6, 6, 7, 7, 7, 7, 7, 7, 7, 7, 7, 7, 7, 7, 7, 7, 7, 7, 7, 7, 7, 7, 7, 7, 7, 7, 7, 7, 7, 7, 7, 7, 7, 7, 7, 7, 7, 7, 7, 7, 7, 7, 7, 7, 7, 7, 7, 7, 7, 7, 7, 7, 7, 7, 7, 7, 7, 7, 7, 7, 7, 7, 7, 7, 7, 7, 8, 8, 8, 8, 8, 8, 8, 8, 8, 8, 8, 8, 8, 8, 8, 8, 8, 8, 8, 8, 8, 8, 8, 8, 8, 8, 8, 8, 8, 8, 8, 8, 8, 8, 8, 8, 8, 8, 8, 8, 8, 8, 8, 8, 8, 8, 8, 8, 8, 8, 8, 8, 8, 8, 8, 8, 8, 8, 8, 8, 8, 8, 8, 8, 8, 8, 8, 8, 8, 8, 8, 8, 8, 8, 8, 8, 8, 8, 8, 8, 8, 8, 8, 8, 8, 8, 8, 8, 8, 8, 8, 8, 8, 8, 8, 8, 8, 8, 8, 8, 8, 8, 8, 8, 8, 8, 8, 8, 8, 8, 8, 8, 8, 8, 8, 8, 8, 8, 8, 8, 8, 8, 8, 8, 8, 8, 8, 8] : List UInt8)) (.i .u8 l) = some (.i .u8 c.toNat) := by
    simp only [ixsD]
    rw [if_pos (by omega), Int.toNat_natCast, h1]
    rfl
  have a1 : ¬ (4294967296 : Int) ≤ l := by omega
  have a2 : ¬ (65536 : Int) ≤ l := by omega
  have a3 : ¬ (256 : Int) ≤ l := by omega
  have c2 : convD .u8 (.i .u64 l) = some (.i .u8 l) := cv2 (by omega)
  have c3 := cv3 (k := .u8) (l := c.toNat) (by omega)
  have m1 : binD .add .num (iN 0) (iN c.toNat) = some (iN (0 + c.toNat)) := add_N (by omega)
  rw [Nat.zero_add] at m1
  apply i207 _ _ rfl rfl
  have hs : strip (uN l) = .i .u64 l := rfl
  rw [hs]
  simp only [s207, bin_geq, a1, a2, a3, decide_false, OX_some, jnE, WB_b, Bool.false_eq_true, if_false, c2, hix, c3, l0, m1]
  rfl

theorem v175 (l : Nat) (h : l < 50) : ∃ v : Nat, isoCall (call dp) 175 [uN l] = some (iN v) ∧ v ≤ 6 ∧ (1 ≤ l → 2 ^ v ≤ 2 * l) := by
  obtain ⟨v, e, h2, h3⟩ := v207 l h
  refine ⟨v, ?_, h2, h3⟩
  apply i175 _ _ rfl rfl
  have hs : strip (uN l) = uN l := rfl
  rw [hs]
  simp only [s175, WB_b, Bool.false_eq_true, if_false, e, OX_some]
  rfl

theorem shlU {v : Nat} (h : v ≤ 6) : binD .shl .num (.i .u64 1) (iN v) = some (uN (2 ^ v)) := by
  have h2 : 2 ^ v ≤ 2 ^ 6 := Nat.pow_le_pow_right (by omega) h
  have hm : min v 64 = v := by omega
  simp only [binD, shOp, iN]
  rw [if_neg (by omega)]
  simp only [IntKind.bits, Int.toNat_natCast, hm, Int.one_mul]
  have e : (2 : Int) ^ v = ((2 ^ v : Nat) : Int) := by simp
  rw [e]
  generalize 2 ^ v = m at *
  rw [wrapUN (by omega)]; rfl

theorem v217 (l : Nat) (h : l < 50) (h1 : 1 ≤ l) : ∃ m : Nat, isoCall (call dp) 217 [iN l] = some (uN m) ∧ 1 ≤ m ∧ m ≤ 2 * l := by
  obtain ⟨v, e, h2, h3⟩ := v175 l h
  refine ⟨2 ^ v, ?_, Nat.one_le_two_pow, h3 h1⟩
  apply i217 _ _ rfl rfl
  have hs : strip (iN l) = iN l := rfl
  rw [hs]
  simp only [s217, cv1 (l := l) (by omega), OX_some, e, shlU h2]
  rfl

/-! The random numbers: only that they are numbers. -/
theorem shlX (a s : Nat) : ∃ y : Nat, binD .shl .num (uN a) (.i .u64 s) = some (uN y) := by
  simp only [binD, shOp, uN]
  rw [if_neg (by omega)]
  obtain ⟨y, _, e⟩ := wrapU ((a : Int) * 2 ^ min (s : Int).toNat 64)
  exact ⟨y, by simp only [IntKind.bits]; rw [e]⟩
theorem shrX (a s : Nat) : ∃ y : Nat, binD .shr .num (uN a) (.i .u64 s) = some (uN y) := by
  simp only [binD, shOp, uN]
  rw [if_neg (by omega)]
  refine ⟨a / 2 ^ min (s : Int).toNat 64, ?_⟩
  have e : (2 : Int) ^ min (s : Int).toNat 64 = ((2 ^ min (s : Int).toNat 64 : Nat) : Int) := by simp
  simp only [IntKind.bits]
  rw [e, ← Int.ofNat_fdiv]
theorem xorX (a b : Nat) : ∃ y : Nat, y < 18446744073709551616 ∧ binD .xor .num (uN a) (uN b) = some (uN y) := by
  simp only [binD, intOp, uN, if_true]
  obtain ⟨y, h, e⟩ := wrapU ((BitVec.ofInt IntKind.u64.bits a ^^^ BitVec.ofInt IntKind.u64.bits b).toNat : Int)
  exact ⟨y, h, by rw [e]⟩
theorem andX (a b : Nat) (hb : b < 18446744073709551616) : ∃ y : Nat, y ≤ b ∧ binD .and .num (uN a) (uN b) = some (uN y) := by
  simp only [binD, intOp, uN, if_true]
  have h : (BitVec.ofInt 64 (a : Int) &&& BitVec.ofInt 64 (b : Int)).toNat ≤ b := by
    have e : (BitVec.ofInt 64 (b : Int)).toNat = b := by simp; omega
    rw [BitVec.toNat_and, e]
    exact Nat.and_le_right
  refine ⟨_, h, ?_⟩
  have : (BitVec.ofInt 64 (a : Int) &&& BitVec.ofInt 64 (b : Int)).toNat < 18446744073709551616 := by omega
  exact congrArg (fun z => some (D.i .u64 z)) (wrapUN this)

def xB (x : Nat) : Ent := .box [uN x]
theorem sget_xB {S : Store} {id : Nat} (d : Array Row) (k : Nat) (h : id < S.length) : sget (put (xB k :: S) id d) S.length = some (xB k) := by
  rw [sget_put_ne _ (by omega)]; simp
theorem ld_xB {S : Store} {id : Nat} (d : Array Row) (k : Nat) (h : id < S.length) : ldD (put (xB k :: S) id d) 1 false (.bx S.length 0) = some (uN k) := by
  simp only [ldD_bx, sget_xB d k h]; rfl
theorem st_xB {S : Store} {id : Nat} (d : Array Row) (k m : Nat) (h : id < S.length) : stD (put (xB k :: S) id d) 1 false (.bx S.length 0) (uN m) = some (put (xB m :: S) id d) := by
  simp only [stD_bx, sget_xB d k h]
  have : stE (some (xB k)) (put (xB k :: S) id d) S.length 1 false 0 (uN m) = some (sset (put (xB k :: S) id d) S.length (xB m)) := rfl
  rw [this, put_push _ _ h, put_push _ _ h]
  simp only [sset, put_len, if_true]

theorem v218 {S : Store} {id : Nat} (d : Array Row) (x : Nat) (hid : id < S.length) : ∃ y : Nat, y < 18446744073709551616 ∧ call dp 218 [.bx S.length 0] (put (xB x :: S) id d) = some (uN y, put (xB y :: S) id d) := by
  obtain ⟨r, S', e, y, rfl, rfl, hy⟩ := f218 (.bx S.length 0) (put (xB x :: S) id d) (fun r S' => ∃ y : Nat, r = uN y ∧ S' = put (xB y :: S) id d ∧ y < 18446744073709551616) (by
    have hnil : nilckD (.bx S.length 0) = some (.bx S.length 0) := rfl
    obtain ⟨y1, e1⟩ := shlX x 13
    obtain ⟨y2, _, e2⟩ := xorX x y1
    obtain ⟨y3, e3⟩ := shrX y2 7
    obtain ⟨y4, _, e4⟩ := xorX y2 y3
    obtain ⟨y5, e5⟩ := shlX y4 17
    obtain ⟨y6, h6, e6⟩ := xorX y4 y5
    simp only [Int.cast_ofNat_Int] at e1 e3 e5
    simp only [s218, hnil, OX_some, ld_xB d _ hid, st_xB d _ _ hid, e1, e2, e3, e4, e5, e6]
    exact ⟨y6, rfl, rfl, h6⟩)
  exact ⟨y, hy, e⟩

theorem v200 {S : Store} {id n : Nat} {d : Array Row} (a b : Nat) (hid : id < S.length) (hn : d.size = n) (hab : a < b) (hb : b ≤ n) (h9 : n ≤ 49) :
    ∃ L d', call dp 200 [arN id n, iN a, iN b, cmpF] (put S id d) = some (.tup [], put (L ++ S) id d') ∧ Go.Sort.PermIn a b d d' := by
  obtain ⟨r, S', e, rfl, L, d', rfl, hp⟩ := f200 (arN id n) (iN a) (iN b) cmpF (put S id d) (fun r S' => r = .tup [] ∧ ∃ L d', S' = put (L ++ S) id d' ∧ Go.Sort.PermIn a b d d') (by
    have m1 : binD .sub .num (iN b) (iN a) = some (iN (b - a)) := sub_N (by omega) (by omega)
    by_cases h8 : 8 ≤ b - a
    case neg =>
      simp only [s200, m1, l8, OX_some, geq_N, h8, decide_false, WB_b, Bool.false_eq_true, if_false]
      exact ⟨trivial, [], d, rfl, Go.Sort.permIn_refl _ _ _⟩
    obtain ⟨m, e217, hm1, hm2⟩ := v217 (b - a) (by omega) (by omega)
    have m2 : binD .quo .num (iN (b - a)) (iN 4) = some (iN ((b - a) / 4)) := quo_N (by omega) (by omega)
    have m3 : binD .mul .num (iN ((b - a) / 4)) (iN 2) = some (iN ((b - a) / 4 * 2)) := mul_N (by omega)
    have m4 : binD .add .num (iN a) (iN ((b - a) / 4 * 2)) = some (iN (a + (b - a) / 4 * 2)) := add_N (by omega)
    have m5 : binD .sub .num (iN (a + (b - a) / 4 * 2)) (iN 1) = some (iN (a + (b - a) / 4 * 2 - 1)) := sub_N (by omega) (by omega)
    have m6 : binD .add .num (iN (a + (b - a) / 4 * 2)) (iN 1) = some (iN (a + (b - a) / 4 * 2 + 1)) := add_N (by omega)
    have hal : Ent.box [.i .u64 0] :: put S id d = put (xB 0 :: S) id d := (put_push d _ hid).symm
    have m7 : binD .sub .num (uN m) (.i .u64 1) = some (uN (m - 1)) := by
      simp only [uN, bin_sub]
      have e : (m : Int) - 1 = ((m - 1 : Nat) : Int) := by omega
      rw [e, wrapUN (by omega)]
    simp only [s200, m1, l1, l2, l4, l8, OX_some, geq_N, h8, decide_true, WB_b, if_true, cv1 (l := b - a) (by omega), al_eq, put_len, hal, st_xB d 0 _ hid, e217, m2, m3, m4, m5]
    let J : Nat → List D → Store → Prop := fun q fr S' => ∃ idx x d' x35, q = a + (b - a) / 4 * 2 + 2 - idx ∧ a + (b - a) / 4 * 2 - 1 ≤ idx ∧ Go.Sort.PermIn a b d d' ∧ S' = put (xB x :: S) id d' ∧
      fr = mkf 67 [(0, arN id n), (1, iN a), (8, iN (b - a)), (9, .bx S.length 0), (10, uN m), (11, iN idx), (35, x35)]
    refine W_loop J ?_ (a + (b - a) / 4 * 2 + 2 - (a + (b - a) / 4 * 2 - 1)) _ _ ⟨a + (b - a) / 4 * 2 - 1, b - a, d, _, rfl, by omega, Go.Sort.permIn_refl _ _ _, rfl, rfl⟩
    rintro q fr S' ⟨idx, x, d', x35, rfl, hlo, hp, rfl, rfl⟩
    rw [← wp_W, e200_0]
    have hn' : d'.size = n := hp.1.trans hn
    by_cases hlt : idx ≤ a + (b - a) / 4 * 2 + 1
    · obtain ⟨y, _, e218⟩ := v218 d' x hid
      obtain ⟨z, hz, eand⟩ := andX y (m - 1) (by omega)
      have hid' : id < (xB y :: S).length := by simp; omega
      have c1 : convD .i64 (uN z) = some (iN z) := cv3 (k := .u64) (l := z) (by omega)
      have m9 : binD .add .num (iN idx) (iN 1) = some (iN (idx + 1)) := add_N (by omega)
      by_cases hz2 : b - a ≤ z
      · have r0 : binD .sub .num (iN z) (iN (b - a)) = some (iN (z - (b - a))) := sub_N (by omega) (by omega)
        have r1 : binD .add .num (iN a) (iN (z - (b - a))) = some (iN (a + (z - (b - a)))) := add_N (by omega)
        have i0 := ia_N (id := id) (n := n) (k := a + (z - (b - a))) (by omega)
        have i1 := ia_N (id := id) (n := n) (k := idx) (by omega)
        have d0 := ld_N (d := d') (k := a + (z - (b - a))) hid' (by omega)
        have d1 := ld_N (d := d') (k := idx) hid' (by omega)
        have s1 := st_N (d := d') (k := idx) d'[a + (z - (b - a))]! hid' (by omega)
        have s2 := st_N (d := d'.setIfInBounds idx d'[a + (z - (b - a))]!) (k := a + (z - (b - a))) d'[idx]! hid' (by simp; omega)
        simp only [s200_0, l1, l2, l4, m2, m3, m4, m6, OX_some, leq_N, hlt, decide_true, WB_b, if_true, e218, m7, eand, c1, geq_N, hz2, jnE, r0, r1, i0, i1, d0, d1, s1, s2, m9, Qseq_normal]
        exact ⟨a + (b - a) / 4 * 2 + 2 - (idx + 1), by omega, idx + 1, y, Go.Sort.swp d' idx (a + (z - (b - a))), _, rfl, by omega, Go.Sort.permIn_trans _ _ _ _ _ hp (Go.Sort.swp_permIn d' a b idx (a + (z - (b - a))) (by omega) (by omega) (by omega) (by omega) (by omega)), rfl, rfl⟩
      · have hz3 : z < b - a := by omega
        have r1 : binD .add .num (iN a) (iN z) = some (iN (a + z)) := add_N (by omega)
        have i0 := ia_N (id := id) (n := n) (k := a + z) (by omega)
        have i1 := ia_N (id := id) (n := n) (k := idx) (by omega)
        have d0 := ld_N (d := d') (k := a + z) hid' (by omega)
        have d1 := ld_N (d := d') (k := idx) hid' (by omega)
        have s1 := st_N (d := d') (k := idx) d'[a + z]! hid' (by omega)
        have s2 := st_N (d := d'.setIfInBounds idx d'[a + z]!) (k := a + z) d'[idx]! hid' (by simp; omega)
        simp only [s200_0, l1, l2, l4, m2, m3, m4, m6, OX_some, leq_N, hlt, decide_true, WB_b, if_true, e218, m7, eand, c1, geq_N, hz2, decide_false, Bool.false_eq_true, if_false, jnE, r1, i0, i1, d0, d1, s1, s2, m9, Qseq_normal]
        exact ⟨a + (b - a) / 4 * 2 + 2 - (idx + 1), by omega, idx + 1, y, Go.Sort.swp d' idx (a + z), _, rfl, by omega, Go.Sort.permIn_trans _ _ _ _ _ hp (Go.Sort.swp_permIn d' a b idx (a + z) (by omega) (by omega) (by omega) (by omega) (by omega)), rfl, rfl⟩
    · simp only [s200_0, l1, l2, l4, m2, m3, m4, m6, OX_some, leq_N, hlt, decide_false, WB_b, Bool.false_eq_true, if_false, Qseq_exit, Qblk_same, FinK_normal, FinK_nil]
      exact ⟨trivial, [_], d', rfl, hp⟩)
  exact ⟨L, d', e, hp⟩

end Go.Proofs.YtjlmeikcfdanmaaGreatDoor.DE.V

namespace Go.Proofs.YtjlmeikcfdanmaaGreatDoor.DE.V
open Go
set_option maxRecDepth 20000

theorem jnI {α : Type} {K : α} {X : α → Prop} (P : α → Prop) (hX : ∀ k, P k → X k) (hK : P K) : jn K X := hX K hK

theorem condI (wb wp : Bool) (hh : Nat) {K : D → Prop} (h : K (.b (wb && wp && decide (hh = 1)))) : OX (gsel (.b wb) true (some (.b wp))) fun x41 => OX (pickD (.b wb) x41 (.b false)) fun x42 => OX (gsel x42 true (some (iN hh))) fun x43 =>
    OX (gsel x42 true (binD .eql .num x43 (iN 1))) fun x44 => OX (pickD x42 x44 (.b false)) fun x45 => K x45 := by
  cases wb <;> cases wp <;> simpa only [gsel_tt, gsel_ft, pick_t, pick_f, OX_some, eql_N, Bool.and_true, Bool.and_false, Bool.true_and, Bool.false_and] using h

theorem condJ {S : Store} {id n : Nat} {d : Array Row} (a pv : Nat) (hid : id < S.length) (hn : d.size = n) (ha : a ≤ n) (hp : pv < n) (h9 : n ≤ 1000000) {K : D → Prop} (h : K (.b (decide (0 < a) && !ltR d[a - 1]! d[pv]!))) :
    OX (binD .gtr .num (iN a) (iN 0)) fun x59 => OX (gsel x59 true (some cmpF)) fun x60 => OX (gsel x59 true (some (arN id n))) fun x61 => OX (gsel x59 true (some (iN a))) fun x62 => OX (gsel x59 true (binD .sub .num x62 (iN 1))) fun x63 =>
    OX (gsel x59 true (iaD 2 x61 x63)) fun x64 => OX (gsel x59 true (ldD (put S id d) 2 true x64)) fun x65 => OX (gsel x59 true (some (arN id n))) fun x66 => OX (gsel x59 true (some (iN pv))) fun x67 => OX (gsel x59 true (iaD 2 x66 x67)) fun x68 =>
    OX (gsel x59 true (ldD (put S id d) 2 true x68)) fun x69 => OX (gsel x59 true (match fnD x60 with | some p => isoCall (call dp) p.1 ([x65, x69] ++ p.2) | none => none)) fun x70 => OX (gsel x59 true (binD .lss .num x70 (iN 0))) fun x71 =>
    OX (gsel x59 true (unD .not x71)) fun x72 => OX (pickD x59 x72 (.b false)) fun x73 => K x73 := by
  by_cases ha0 : 0 < a
  · have i0 := ia_N (id := id) (n := n) (k := a - 1) (by omega)
    have i1 := ia_N (id := id) (n := n) (k := pv) (by omega)
    have d0 := ld_N (d := d) (k := a - 1) hid (by omega)
    have d1 := ld_N (d := d) (k := pv) hid (by omega)
    have c1 := v123 d[a - 1]! d[pv]!
    have m1 : binD .sub .num (iN a) (iN 1) = some (iN (a - 1)) := sub_N (by omega) (by omega)
    simp only [ha0, decide_true, Bool.true_and] at h
    simp only [gtr_N, ha0, decide_true, OX_some, gsel_tt, m1, i0, i1, d0, d1, cmpF, fnD_fn, List.append_nil, c1, lss_c, un_not, pick_t]
    exact h
  · simp only [ha0, decide_false, Bool.false_and] at h
    simp only [gtr_N, ha0, decide_false, OX_some, gsel_ft, gsel_skip, pick_f]
    exact h

theorem below_perm {a b : Nat} {d d' : Array Row} (hb : b ≤ d.size) (h : Go.Sort.Below ltR a b d) (hP : Go.Sort.PermIn a b d d') : Go.Sort.Below ltR a b d' :=
  Go.Sort.Below.permA Go.Sort.permIn_all hb h hP

theorem v174 {id n : Nat} (h9 : n ≤ 49) : ∀ (m : Nat) {S : Store} {d : Array Row} (a b lim : Nat), id < S.length → b - a ≤ m → d.size = n → a ≤ b → b ≤ n → lim ≤ 1000 → Go.Sort.Below ltR a b d →
    ∃ L d', call dp 174 [arN id n, iN a, iN b, iN lim, cmpF] (put S id d) = some (.tup [], put (L ++ S) id d') ∧ Go.Sort.PermIn a b d d' ∧ Go.Sort.SortedIn ltR a b d' := by
  intro m
  induction m using Nat.strongRecOn with
  | _ m ih =>
  intro S d a b lim hid hm hn hab hb hlim hB
  obtain ⟨r, S', e, rfl, L, d', rfl, hp, hs⟩ := f174 (arN id n) (iN a) (iN b) (iN lim) cmpF (put S id d) (fun r S' => r = .tup [] ∧ ∃ L d', S' = put (L ++ S) id d' ∧ Go.Sort.PermIn a b d d' ∧ Go.Sort.SortedIn ltR a b d') (by
    simp only [s174]
    let J : Nat → List D → Store → Prop := fun q fr S' => ∃ L a' b' d' lim' wb wp x12 x13 x80, q = b' - a' ∧ b' - a' ≤ m ∧ a' ≤ b' ∧ b' ≤ n ∧ lim' ≤ 1000 ∧ d'.size = n ∧ Go.Sort.Below ltR a' b' d' ∧
      (∀ R, Go.Sort.PermIn a' b' d' R → Go.Sort.SortedIn ltR a' b' R → Go.Sort.PermIn a b d R ∧ Go.Sort.SortedIn ltR a b R) ∧ S' = put (L ++ S) id d' ∧
      fr = mkf 148 [(0, arN id n), (1, iN a'), (2, iN b'), (3, iN lim'), (4, cmpF), (10, .b wb), (11, .b wp), (12, x12), (13, x13), (80, x80)]
    refine W_loop J ?_ (b - a) _ _ ⟨[], a, b, d, lim, true, true, _, _, _, rfl, hm, hab, hb, hlim, hn, hB, fun R h1 h2 => ⟨h1, h2⟩, rfl, rfl⟩
    rintro q fr S' ⟨L, a', b', d', lim', wb, wp, x12, x13, x80, rfl, hm', hab', hb', hlim', hn', hB', hcl, rfl, rfl⟩
    rw [← wp_W, e174_0]
    have hidL : ∀ L : List Ent, id < (L ++ S).length := fun L => by simp; omega
    have m1 : binD .sub .num (iN b') (iN a') = some (iN (b' - a')) := sub_N (by omega) (by omega)
    by_cases h12 : b' - a' ≤ 12
    · have e198 := v198 (S := L ++ S) (d := d') a' b' (hidL L) hn' hab' hb' (by omega)
      obtain ⟨hp, hs⟩ := Go.Sort.insertionSort_holds swo d' a' b' hab' (by omega)
      simp only [s174_0, m1, l12, OX_some, leq_N, h12, decide_true, WB_b, if_true, e198, Qseq_ret, Qblk_ret, FinK_nil]
      exact ⟨trivial, L, _, rfl, hcl _ hp hs⟩
    by_cases h0 : lim' = 0
    · have e199 := v199 (S := L ++ S) (d := d') a' b' (hidL L) hn' (by omega) hb' (by omega)
      obtain ⟨hp, hs⟩ := Go.Sort.heapSort_holds swo d' a' b' hab' (by omega)
      simp only [s174_0, m1, l0, l12, OX_some, leq_N, h12, decide_false, WB_b, Bool.false_eq_true, if_false, eql_N, h0, decide_true, if_true, e199, Qseq_ret, Qblk_ret, FinK_nil]
      exact ⟨trivial, L, _, rfl, hcl _ hp hs⟩
    simp only [s174_0, m1, l0, l1, l2, l8, l12, OX_some, leq_N, h12, decide_false, WB_b, Bool.false_eq_true, if_false, eql_N, h0, un_not]
    refine jnI (fun k => ∀ L1 d1 lim1 x x', lim1 ≤ 1000 → Go.Sort.PermIn a' b' d' d1 → k (arN id n) (iN a') (iN b') (iN lim1) cmpF (.b wb) (.b wp) (iN (b' - a')) x x' x80 (put (L1 ++ S) id d1)) ?_ ?_
    · intro k hk
      cases wb with
      | true =>
        simp only [Bool.not_true, Bool.false_eq_true, if_false]
        exact hk L d' lim' _ _ hlim' (Go.Sort.permIn_refl _ _ _)
      | false =>
        obtain ⟨L1, d1, e200, hp⟩ := v200 (S := L ++ S) (d := d') a' b' (hidL L) hn' (by omega) hb' h9
        have m2 : binD .sub .num (iN lim') (iN 1) = some (iN (lim' - 1)) := sub_N (by omega) (by omega)
        simp only [Bool.not_false, if_true, e200, OX_some, m2]
        rw [← List.append_assoc]
        exact hk (L1 ++ L) d1 (lim' - 1) _ _ (by omega) hp
    intro L1 d1 lim1 x y hlim1 hp1
    have hn1 : d1.size = n := hp1.1.trans hn'
    obtain ⟨pv, h, k', e201, hpv1, hpv2⟩ := v201 (S := L1 ++ S) (d := d1) a' b' (hidL L1) hn1 (by omega) hb' h9
    have x0 : ∀ i j : Nat, extD (.tup [iN i, iN j]) 0 = some (iN i) := fun _ _ => rfl
    have x1 : ∀ i j : Nat, extD (.tup [iN i, iN j]) 1 = some (iN j) := fun _ _ => rfl
    have xb0 : ∀ (i : Nat) (j : Bool), extD (.tup [iN i, .b j]) 0 = some (iN i) := fun _ _ => rfl
    have xb1 : ∀ (i : Nat) (j : Bool), extD (.tup [iN i, .b j]) 1 = some (.b j) := fun _ _ => rfl
    simp only [e201, OX_some, x0, x1, eql_N, WB_b]
    refine jnI (fun k => ∀ L2 d2 pv hh x x', Go.Sort.PermIn a' b' d' d2 → a' ≤ pv → pv < b' → k (arN id n) (iN a') (iN b') (iN lim1) cmpF (.b wb) (.b wp) (iN (b' - a')) (iN pv) (iN hh) x x' (put (L2 ++ S) id d2)) ?_ ?_
    · intro k hk
      by_cases h2 : h = 2
      · have e202 := v202 (S := swB k' :: (L1 ++ S)) (d := d1) a' b' (hidL (swB k' :: L1)) hn1 (by omega) hb' (by omega)
        have q1 : binD .sub .num (iN b') (iN 1) = some (iN (b' - 1)) := sub_N (by omega) (by omega)
        have q2 : binD .sub .num (iN pv) (iN a') = some (iN (pv - a')) := sub_N (by omega) (by omega)
        have q3 : binD .sub .num (iN (b' - 1)) (iN (pv - a')) = some (iN (b' - 1 - (pv - a'))) := sub_N (by omega) (by omega)
        simp only [h2, decide_true, if_true, e202, OX_some, q1, q2, q3]
        exact hk (swB k' :: L1) _ (b' - 1 - (pv - a')) 1 _ _ (Go.Sort.permIn_trans _ _ _ _ _ hp1 (Go.Sort.reverseRange_holds d1 a' b' hab' (by omega))) (by omega) (by omega)
      · simp only [h2, decide_false, Bool.false_eq_true, if_false]
        exact hk (swB k' :: L1) d1 pv h _ _ hp1 hpv1 hpv2
    clear e201 hpv1 hpv2
    intro L2 d2 pv hh x y hp2 hpv1 hpv2
    have hn2 : d2.size = n := hp2.1.trans hn'
    have hB2 : Go.Sort.Below ltR a' b' d2 := below_perm (by omega) hB' hp2
    have e203 := v203 (S := L2 ++ S) (d := d2) a' b' (hidL L2) hn2 (by omega) hb' h9
    obtain ⟨pp, ps⟩ := Go.Sort.partialInsertionSort_holds swo d2 a' b' (by omega) (by omega) hB2
    rw [pis (by omega)] at e203 pp ps
    simp only at e203 pp ps
    generalize decide (Go.Sort.scanSorted ltR d2 b' (a' + 1) = b') = c at *
    refine condI wb wp hh ?_
    refine jnI (fun k => ∀ x x', k (arN id n) (iN a') (iN b') (iN lim1) cmpF (.b wb) (.b wp) (iN (b' - a')) (iN pv) x x' (put (L2 ++ S) id d2)) ?_ ?_
    · intro k hk
      simp only [WB_b]
      split
      · simp only [e203, OX_some, WB_b]
        split
        · rename_i hc
          simp only [Qseq_ret, Qblk_ret, FinK_nil]
          exact ⟨trivial, L2, d2, rfl, hcl _ hp2 (ps hc)⟩
        · exact hk _ _
      · exact hk _ _
    intro x y
    refine condJ (S := L2 ++ S) (d := d2) a' pv (hidL L2) hn2 (by omega) (by omega) (by omega) ?_
    simp only [WB_b]
    split
    · rename_i hc
      simp only [Bool.and_eq_true, decide_eq_true_eq, Bool.not_eq_true'] at hc
      obtain ⟨ha0, hnl⟩ := hc
      have e204 := v204 (S := L2 ++ S) (d := d2) a' b' pv (hidL L2) hn2 hpv1 hpv2 hb' (by omega)
      obtain ⟨mid, d4, hP⟩ : ∃ mid d4, Go.Sort.partitionEqual ltR d2 a' b' pv = (mid, d4) := ⟨_, _, rfl⟩
      obtain ⟨r1, r2, r3, r4, r5⟩ := Go.Sort.round_eq swo (Go.Sort.partitionEqual_holds ltR) ha0 hpv1 hpv2 (by omega) hB2 hnl hP
      rw [hP] at e204
      simp only at e204
      simp only [e204, OX_some, Qseq_normal]
      exact ⟨b' - mid, by omega, L2, mid, b', d4, lim1, wb, wp, _, _, _, rfl, by omega, r2, hb', hlim1, r3.trans hn2, r4, fun R h1 h2 => (r5 R h1 h2).elim fun h3 h4 => hcl _ (Go.Sort.permIn_trans _ _ _ _ _ hp2 h3) h4, rfl, rfl⟩
    have e205 := v205 (S := L2 ++ S) (d := d2) a' b' pv (hidL L2) hn2 hpv1 hpv2 hb' (by omega)
    obtain ⟨mid, ap, d4, hP⟩ : ∃ mid ap d4, Go.Sort.partition ltR d2 a' b' pv = (mid, ap, d4) := ⟨_, _, _, rfl⟩
    obtain ⟨r1, r2, r3, r4, r5, r6, r7⟩ := Go.Sort.round_part swo (Go.Sort.partition_holds ltR) hpv1 hpv2 (by omega) hB2 hP
    rw [hP] at e205
    simp only at e205
    have q1 : binD .sub .num (iN mid) (iN a') = some (iN (mid - a')) := sub_N (by omega) (by omega)
    have q2 : binD .sub .num (iN b') (iN mid) = some (iN (b' - mid)) := sub_N (by omega) (by omega)
    have q3 : binD .quo .num (iN (b' - a')) (iN 8) = some (iN ((b' - a') / 8)) := quo_N (by omega) (by omega)
    have q4 : binD .add .num (iN mid) (iN 1) = some (iN (mid + 1)) := add_N (by omega)
    simp only [e205, OX_some, xb0, xb1, q1, q2, q3, q4, lss_N, jnE, WB_b, geq_N]
    split
    · obtain ⟨L4, d5, e5, hp5, hs5⟩ := ih (mid - a') (by omega) (S := L2 ++ S) (d := d4) a' mid lim1 (hidL L2) (Nat.le_refl _) (r3.trans hn2) r1 (by omega) hlim1 r4
      obtain ⟨t1, t2⟩ := r6 d5 hp5 hs5
      simp only [e5, OX_some, Qseq_normal]
      rw [← List.append_assoc]
      exact ⟨b' - (mid + 1), by omega, L4 ++ L2, mid + 1, b', d5, lim1, _, _, _, _, _, rfl, by omega, r2, hb', hlim1, hp5.1.trans (r3.trans hn2), t1, fun R h1 h2 => (t2 R h1 h2).elim fun h3 h4 => hcl _ (Go.Sort.permIn_trans _ _ _ _ _ hp2 h3) h4, rfl, rfl⟩
    · obtain ⟨L4, d5, e5, hp5, hs5⟩ := ih (b' - (mid + 1)) (by omega) (S := L2 ++ S) (d := d4) (mid + 1) b' lim1 (hidL L2) (Nat.le_refl _) (r3.trans hn2) r2 hb' hlim1 r5
      obtain ⟨t1, t2⟩ := r7 d5 hp5 hs5
      simp only [e5, OX_some, Qseq_normal]
      rw [← List.append_assoc]
      exact ⟨mid - a', by omega, L4 ++ L2, a', mid, d5, lim1, _, _, _, _, _, rfl, by omega, r1, by omega, hlim1, hp5.1.trans (r3.trans hn2), t1, fun R h1 h2 => (t2 R h1 h2).elim fun h3 h4 => hcl _ (Go.Sort.permIn_trans _ _ _ _ _ hp2 h3) h4, rfl, rfl⟩)
  exact ⟨L, d', e, hp, hs⟩

end Go.Proofs.YtjlmeikcfdanmaaGreatDoor.DE.V

namespace Go.Proofs.YtjlmeikcfdanmaaGreatDoor.DE.V
open Go
set_option maxRecDepth 20000

/-- Each value once, of values in order: what stands before place m. -/
def ddN (g : Nat → Row) : Nat → List Row
  | 0 => []
  | m + 1 => if 0 < m ∧ g m = g (m - 1) then ddN g m else ddN g m ++ [g m]

theorem ddN_pos (g : Nat → Row) : ∀ m, 0 < m → 0 < (ddN g m).length
  | 0, h => by omega
  | m + 1, _ => by
    simp only [ddN]
    split
    · rename_i h; exact ddN_pos g m h.1
    · simp
theorem ddN_mem (g : Nat → Row) (r : Row) : ∀ m, r ∈ ddN g m ↔ ∃ i, i < m ∧ g i = r
  | 0 => by simp [ddN]
  | m + 1 => by
    have ih := ddN_mem g r m
    simp only [ddN]
    split
    · rename_i h
      rw [ih]
      constructor
      · rintro ⟨i, h1, h2⟩; exact ⟨i, by omega, h2⟩
      · rintro ⟨i, h1, h2⟩
        by_cases e : i = m
        · subst e; exact ⟨i - 1, by omega, by rw [← h.2, h2]⟩
        · exact ⟨i, by omega, h2⟩
    · rw [List.mem_append, ih, List.mem_singleton]
      constructor
      · rintro (⟨i, h1, h2⟩ | h)
        · exact ⟨i, by omega, h2⟩
        · exact ⟨m, by omega, h.symm⟩
      · rintro ⟨i, h1, h2⟩
        by_cases e : i = m
        · subst e; exact .inr h2.symm
        · exact .inl ⟨i, by omega, h2⟩

/-- Strictly ascending. -/
def Asc (l : List Row) : Prop := l.Pairwise fun x y => ltR x y = true

theorem ltR_total {x y : Row} (h1 : ltR x y = false) (h2 : ltR y x = false) : x = y := by
  rw [ltR_false] at h1 h2
  exact Prod.ext (by omega) (by omega)

theorem ddN_asc (g : Nat → Row) (n : Nat) (hs : ∀ i j, i < j → j < n → ltR (g j) (g i) = false) : ∀ m, m ≤ n → Asc (ddN g m)
  | 0, _ => List.Pairwise.nil
  | m + 1, hm => by
    have ih := ddN_asc g n hs m (by omega)
    simp only [ddN]
    split
    · exact ih
    · rename_i h
      refine List.pairwise_append.2 ⟨ih, List.pairwise_singleton _ _, ?_⟩
      intro x hx y hy
      rw [List.mem_singleton] at hy
      subst hy
      obtain ⟨i, hi, rfl⟩ := (ddN_mem g x m).1 hx
      cases hc : ltR (g i) (g m) with
      | true => rfl
      | false =>
        exfalso
        have e : g i = g m := ltR_total hc (hs i m hi (by omega))
        apply h
        refine ⟨by omega, ?_⟩
        by_cases hi' : i = m - 1
        · rw [← hi', e]
        · have a1 := hs i (m - 1) (by omega) (by omega)
          have a2 := hs (m - 1) m (by omega) (by omega)
          rw [e] at a1
          exact ltR_total a2 a1

theorem v122 {S : Store} {id n : Nat} {d : Array Row} (hid : id < S.length) (hn : d.size = n) (h9 : n ≤ 49) :
    ∃ L d', call dp 122 [arN id n, cmpF] (put S id d) = some (.tup [], put (L ++ S) id d') ∧ Go.Sort.PermIn 0 n d d' ∧ Go.Sort.SortedIn ltR 0 n d' := by
  obtain ⟨r, S', e, rfl, L, d', rfl, hp, hs⟩ := f122 (arN id n) cmpF (put S id d) (fun r S' => r = .tup [] ∧ ∃ L d', S' = put (L ++ S) id d' ∧ Go.Sort.PermIn 0 n d d' ∧ Go.Sort.SortedIn ltR 0 n d') (by
    obtain ⟨v, e175, hv, _⟩ := v175 n (by omega)
    obtain ⟨L, d', e174, hp, hs⟩ := v174 (id := id) (n := n) h9 n (S := S) (d := d) 0 n v hid (by omega) hn (by omega) (by omega) (by omega) (.inl rfl)
    have hl : lenD false (arN id n) = some (iN n) := rfl
    simp only [s122, hl, OX_some, cv1 (l := n) (by omega), e175, l0, e174]
    exact ⟨trivial, L, d', rfl, hp, hs⟩)
  exact ⟨L, d', e, hp, hs⟩

/-! Compact. -/
theorem eq_row (r s : Row) : binD .eql (.agg [.i, .i]) (.agg (eRow r)) (.agg (eRow s)) = some (.b (decide (r = s))) := bin_eql_row r s

theorem splice_take : ∀ (l cs : List D) (o m : Nat), m ≤ o → (splice cs o l).take m = cs.take m
  | [], _, _, _, _ => rfl
  | x :: l, cs, o, m, h => by
    have ft : ∀ (cs : List D) (o m : Nat), m ≤ o → (fset cs o x).take m = cs.take m := by
      intro cs
      induction cs with
      | nil => intros; rfl
      | cons c cs ih =>
        intro o m h
        cases o with
        | zero => have : m = 0 := by omega
                  subst this; rfl
        | succ o =>
          cases m with
          | zero => rfl
          | succ m => simp only [fset, List.take_succ_cons, ih o m (by omega)]
    rw [splice, splice_take l _ (o + 1) m (by omega), ft cs o m h]

theorem chunks_take : ∀ (k : Nat) (cs : List D) (l : List Row), l.length = k → cs.take (2 * k) = flatL l → chunks 2 k cs = l.map eRow
  | 0, _, l, h, _ => by have := List.length_eq_zero_iff.1 h; subst this; rfl
  | k + 1, cs, [], h, _ => by simp at h
  | k + 1, cs, x :: l, h, e => by
    rw [flatL_cons] at e
    match cs, e with
    | [], e => simp at e
    | [a], e => rw [show 2 * (k + 1) = 2 * k + 1 + 1 by omega] at e; simp at e
    | a :: b :: cs, e =>
      rw [show 2 * (k + 1) = 2 * k + 1 + 1 by omega] at e
      simp only [List.take_succ_cons, List.cons.injEq] at e
      obtain ⟨rfl, rfl, e⟩ := e
      have ih := chunks_take k cs l (by simpa using h) e
      simp only [chunks, List.take_succ_cons, List.take_zero, List.drop_succ_cons, List.drop_zero, ih, List.map_cons]
      rfl

theorem flat_take (d : Array Row) (l : List Row) (h : l.length ≤ d.size) (hg : ∀ j, j < l.length → l[j]? = some d[j]!) : (flat d).take (2 * l.length) = flatL l := by
  have e : d.toList.take l.length = l := by
    apply List.ext_getElem?
    intro j
    by_cases hj : j < l.length
    · rw [List.getElem?_take_of_lt hj, getE (by omega), hg j hj]
    · rw [List.getElem?_take_eq_none (by omega), List.getElem?_eq_none (by omega)]
  have ft : ∀ (k : Nat) (l : List Row), k ≤ l.length → (flatL l).take (2 * k) = flatL (l.take k) := by
    intro k
    induction k with
    | zero => intros; rfl
    | succ k ih =>
      intro l h
      cases l with
      | nil => simp at h
      | cons x l =>
        rw [show 2 * (k + 1) = 2 * k + 1 + 1 by omega, flatL_cons, List.take_succ_cons, List.take_succ_cons, List.take_succ_cons, flatL_cons, ih l (by simpa using h)]
  rw [flat, ft _ _ (by simpa using h), e]

theorem set_get (d : Array Row) (c i : Nat) (v : Row) (hc : c < d.size) : (d.setIfInBounds c v)[i]! = if i = c then v else d[i]! := by
  by_cases h : i = c
  · subst h
    rw [if_pos rfl, getElem!_pos _ _ (by simpa using hc)]
    simp
  · rw [if_neg h]
    simp only [getElem!_def, Array.getElem?_setIfInBounds]
    rw [if_neg (fun e => h e.symm)]

theorem ia_2 {id k m j : Nat} (h : j < m) : iaD 2 (.ar 2 id (k * 2) m) (iN j) = some (.bx id ((k + j) * 2)) := by
  simp only [iN, iaD]
  rw [if_pos ⟨by omega, by omega, trivial⟩]
  simp; omega
theorem neq_row (r s : Row) : binD .neq (.agg [.i, .i]) (.agg (eRow r)) (.agg (eRow s)) = some (.b (!decide (r = s))) := bin_neq_row r s

theorem v124 {S : Store} {id n : Nat} {d : Array Row} (hid : id < S.length) (hn : d.size = n) (h0 : 0 < n) (h9 : n ≤ 1000000) :
    ∃ k cs S', call dp 124 [arN id n] (put S id d) = some (.ar 2 id 0 k, S') ∧ sget S' id = some (.box cs) ∧ k = (ddN (fun i => d[i]!) n).length ∧ cs.take (2 * k) = flatL (ddN (fun i => d[i]!) n) := by
  let g : Nat → Row := fun i => d[i]!
  have hg : ∀ i, d[i]! = g i := fun _ => rfl
  obtain ⟨r, S', e, k, cs, rfl, h1, h2, h3⟩ := f124 (arN id n) (put S id d) (fun r S' => ∃ k cs, r = .ar 2 id 0 k ∧ sget S' id = some (.box cs) ∧ k = (ddN g n).length ∧ cs.take (2 * k) = flatL (ddN g n)) (by
    have hl : lenD false (arN id n) = some (iN n) := rfl
    have whole : ∀ S', S' = put S id d → ddN g n = (List.range n).map g → ∃ k cs, arN id n = .ar 2 id 0 k ∧ sget S' id = some (.box cs) ∧ k = (ddN g n).length ∧ cs.take (2 * k) = flatL (ddN g n) := by
      rintro _ rfl hr
      have hlen : (ddN g n).length = n := by rw [hr]; simp
      refine ⟨n, flat d, rfl, sget_put d hid, hlen.symm, ?_⟩
      have := flat_take d (ddN g n) (by omega) (fun j hj => by rw [hr] at hj ⊢; simp at hj; simp [hj]; rfl)
      rw [hlen] at this
      exact this
    by_cases h2 : n < 2
    · simp only [s124, hl, l2, OX_some, lss_N, h2, decide_true, WB_b, if_true]
      have : n = 1 := by omega
      exact whole _ rfl (by subst this; rfl)
    simp only [s124, hl, l1, l2, OX_some, lss_N, h2, decide_false, WB_b, Bool.false_eq_true, if_false]
    let J : Nat → List D → Store → Prop := fun q fr S' => ∃ k x2 x4 x5 x13 x25 x32, k + q = n ∧ 1 ≤ k ∧ ddN g k = (List.range k).map g ∧ S' = put S id d ∧
      fr = mkf 61 [(0, arN id n), (2, x2), (3, iN k), (4, x4), (5, x5), (13, x13), (25, x25), (32, x32)]
    refine W_loop J ?_ (n - 1) _ _ ⟨1, _, _, _, _, _, _, by omega, by omega, rfl, rfl, rfl⟩
    rintro q fr S' ⟨k, x2, x4, x5, x13, x25, x32, hk, hk1, hr, rfl, rfl⟩
    rw [← wp_W, e124_1]
    by_cases hlt : k < n
    case neg =>
      have : k = n := by omega
      subst this
      simp only [s124_1, hl, OX_some, lss_N, hlt, decide_false, WB_b, Bool.false_eq_true, if_false, Qseq_exit, Qblk_same, QS_normal, e124_r2, s124_r2, FinK_ret1]
      exact whole _ rfl hr
    have m1 : binD .sub .num (iN k) (iN 1) = some (iN (k - 1)) := sub_N (by omega) (by omega)
    have m2 : binD .add .num (iN k) (iN 1) = some (iN (k + 1)) := add_N (by omega)
    have i0 := ia_N (id := id) (n := n) (k := k) (by omega)
    have i1 := ia_N (id := id) (n := n) (k := k - 1) (by omega)
    have d0 := ld_N (d := d) (k := k) hid (by omega)
    have d1 := ld_N (d := d) (k := k - 1) hid (by omega)
    rw [hg] at d0 d1
    by_cases hdup : g k = g (k - 1)
    case neg =>
      simp only [s124_1, hl, l1, OX_some, lss_N, hlt, decide_true, WB_b, if_true, i0, i1, d0, d1, m1, eq_row, hdup, decide_false, Bool.false_eq_true, if_false, s124_r1, m2, Qblk_normal, Qseq_normal]
      refine ⟨q - 1, by omega, k + 1, _, _, _, _, _, _, by omega, by omega, ?_, rfl, rfl⟩
      rw [ddN, if_neg (by simp [hdup]), hr, List.range_succ]
      simp
    have hsl : ∀ k, k < n → slcD 2 (arN id n) (some (iN k)) none = some (.ar 2 id (k * 2) (n - k)) := by
      intro k hk
      have hk' : (k : Int) ≤ n := by omega
      have : ¬ n = k := by omega
      simp [slcD, arN, bounds, iN, hk', this]
    simp only [s124_1, hl, l1, OX_some, lss_N, hlt, decide_true, WB_b, if_true, i0, i1, d0, d1, m1, eq_row, hdup, hsl k hlt]
    let J2 : Nat → List D → Store → Prop := fun q fr S' => ∃ c j d' x2 x13 x25 x32, j + q = n - k ∧ 1 ≤ j ∧ c = (ddN g (k + j)).length ∧ c ≤ k + j - 1 ∧ d'.size = n ∧ (∀ i, i < c → (ddN g (k + j))[i]? = some d'[i]!) ∧ (∀ i, c ≤ i → d'[i]! = g i) ∧ S' = put S id d' ∧
      fr = mkf 61 [(0, arN id n), (2, x2), (3, iN c), (4, .ar 2 id (k * 2) (n - k)), (5, iN j), (13, x13), (25, x25), (32, x32)]
    have hd1 : ddN g (k + 1) = ddN g k := by rw [ddN, if_pos ⟨by omega, hdup⟩]
    have hlk : (ddN g k).length = k := by rw [hr]; simp
    refine W_loop J2 ?_ (n - k - 1) _ _ ⟨k, 1, d, _, _, _, _, by omega, by omega, by rw [hd1, hlk], by omega, hn, ?_, fun i _ => rfl, rfl, rfl⟩
    · rintro q fr S' ⟨c, j, d', x2, x13, x25, x32, hj, hj1, hc, hcm, hn', hpre, hsuf, rfl, rfl⟩
      rw [← wp_W, e124_0]
      have hl2 : lenD false (.ar 2 id (k * 2) (n - k)) = some (iN (n - k)) := rfl
      have hcp : 0 < c := by rw [hc]; exact ddN_pos g _ (by omega)
      by_cases hlt2 : j < n - k
      · have a0 := ia_2 (id := id) (k := k) hlt2
        have a1 := ia_2 (id := id) (k := k) (m := n - k) (j := j - 1) (by omega)
        have b0 := ld_N (d := d') (k := k + j) hid (by omega)
        have b1 := ld_N (d := d') (k := k + (j - 1)) hid (by omega)
        rw [hsuf (k + j) (by omega)] at b0
        rw [hsuf (k + (j - 1)) (by omega), show k + (j - 1) = k + j - 1 by omega] at b1
        rw [show k + (j - 1) = k + j - 1 by omega] at a1
        have p1 : binD .sub .num (iN j) (iN 1) = some (iN (j - 1)) := sub_N (by omega) (by omega)
        have p2 : binD .add .num (iN j) (iN 1) = some (iN (j + 1)) := add_N (by omega)
        have p3 : binD .add .num (iN c) (iN 1) = some (iN (c + 1)) := add_N (by omega)
        by_cases hd : g (k + j) = g (k + j - 1)
        · simp only [s124_0, hl2, l1, OX_some, lss_N, hlt2, decide_true, WB_b, if_true, a0, a1, b0, b1, p1, neq_row, hd, Bool.not_true, Bool.false_eq_true, if_false, jnE, p2, Qseq_normal]
          have he : ddN g (k + (j + 1)) = ddN g (k + j) := by rw [← Nat.add_assoc, ddN, if_pos ⟨by omega, hd⟩]
          exact ⟨q - 1, by omega, c, j + 1, d', _, _, _, _, by omega, by omega, by rw [he, hc], by omega, hn', fun i hi => by rw [he]; exact hpre i hi, hsuf, rfl, rfl⟩
        · have a2 := ia_N (id := id) (n := n) (k := c) (by omega)
          have s1 := st_N (d := d') (k := c) (g (k + j)) hid (by omega)
          simp only [s124_0, hl2, l1, OX_some, lss_N, hlt2, decide_true, WB_b, if_true, a0, a1, b0, b1, p1, neq_row, hd, decide_false, Bool.not_false, a2, s1, p3, jnE, p2, Qseq_normal]
          have he : ddN g (k + (j + 1)) = ddN g (k + j) ++ [g (k + j)] := by rw [← Nat.add_assoc, ddN, if_neg (fun h => hd h.2)]
          refine ⟨q - 1, by omega, c + 1, j + 1, d'.setIfInBounds c (g (k + j)), _, _, _, _, by omega, by omega, by rw [he, hc]; simp, by omega, by simp [hn'], ?_, ?_, rfl, rfl⟩
          · intro i hi
            rw [he, set_get _ _ _ _ (by omega)]
            by_cases e : i = c
            · rw [if_pos e, e, hc]; simp
            · rw [if_neg e, List.getElem?_append_left (by omega)]; exact hpre i (by omega)
          · intro i hi
            rw [set_get _ _ _ _ (by omega), if_neg (by omega)]
            exact hsuf i (by omega)
      · have hjn : k + j = n := by omega
        rw [hjn] at hc hpre
        have hcl : clrD 2 [iN 0, iN 0] (put S id d') (.ar 2 id (c * 2) (n - c)) = some (sset (put S id d') id (.box (splice (flat d') (c * 2) (List.replicate (n - c) [iN 0, iN 0]).flatten))) := by
          have hfl : (flat d').length = 2 * n := by rw [flat, flatL_len]; simp [hn']
          simp only [clrD, sget_put d' hid]
          rw [if_pos ⟨trivial, rfl⟩, if_pos (by omega)]
        have hs2 : slcD 2 (arN id n) none (some (iN c)) = some (.ar 2 id 0 c) := by
          have hk' : (c : Int) ≤ n := by omega
          have : ¬ c = 0 := by omega
          simp [slcD, arN, bounds, iN, hk', this]
        simp only [s124_0, hl2, OX_some, lss_N, hlt2, decide_false, WB_b, Bool.false_eq_true, if_false, Qseq_exit, Qblk_same, QS_normal, e124_r0, s124_r0, l0, hsl c (by omega), hcl, hs2, Qblk_ret, QS_ret, Qseq_ret, FinK_ret1]
        refine ⟨c, _, rfl, sget_sset _ (by rw [put_len]; exact hid), hc, ?_⟩
        rw [splice_take _ _ _ _ (by omega)]
        have := flat_take d' (ddN g n) (by omega) (fun j hj => hpre j (by omega))
        rw [← hc] at this
        exact this
    · intro i hi
      rw [hd1, hr]
      simp [hi]
      rfl)
  exact ⟨k, cs, S', e, h1, h2, h3⟩

end Go.Proofs.YtjlmeikcfdanmaaGreatDoor.DE.V

namespace Go.Proofs.YtjlmeikcfdanmaaGreatDoor.DE.V
open Go
set_option maxRecDepth 20000

theorem v198e (x : D) (S : Store) : call dp 198 [x, iN 0, iN 0, cmpF] S = some (.tup [], S) := by
  obtain ⟨r, S', e, rfl, rfl⟩ := f198 x (iN 0) (iN 0) cmpF S (fun r S' => r = .tup [] ∧ S' = S) (by
    have m1 : binD .add .num (iN 0) (iN 1) = some (iN (0 + 1)) := add_N (by omega)
    simp only [s198, l1, m1, OX_some]
    apply W_step
    rw [← wp_W, e198_1]
    simp only [s198_1, OX_some, lss_N, show (0 + 1 < 0) = False by simp, decide_false, WB_b, Bool.false_eq_true, if_false, Qseq_exit, Qblk_same, FinK_normal, FinK_nil]
    exact ⟨trivial, trivial⟩)
  exact e

theorem v122e (nl : Bool) (o : Own) (S : Store) : call dp 122 [.sl 2 nl [] o, cmpF] S = some (.tup [], S) := by
  obtain ⟨v, e175, _, _⟩ := v175 0 (by omega)
  have e174 : call dp 174 [.sl 2 nl [] o, iN 0, iN 0, iN v, cmpF] S = some (.tup [], S) := by
    obtain ⟨r, S', e, rfl, rfl⟩ := f174 (.sl 2 nl [] o) (iN 0) (iN 0) (iN v) cmpF S (fun r S' => r = .tup [] ∧ S' = S) (by
      have m1 : binD .sub .num (iN 0) (iN 0) = some (iN (0 - 0)) := sub_N (by omega) (by omega)
      simp only [s174]
      apply W_step
      rw [← wp_W, e174_0]
      simp only [s174_0, m1, l12, OX_some, leq_N, show (0 - 0 ≤ 12) = True by simp, decide_true, WB_b, if_true, v198e, Qseq_ret, Qblk_ret, FinK_nil]
      exact ⟨trivial, trivial⟩)
    exact e
  obtain ⟨r, S', e, rfl, rfl⟩ := f122 (.sl 2 nl [] o) cmpF S (fun r S' => r = .tup [] ∧ S' = S) (by
    have hl : lenD false (.sl 2 nl [] o) = some (iN 0) := rfl
    simp only [s122, hl, OX_some, cv1 (l := 0) (by omega), e175, l0, e174]
    exact ⟨trivial, trivial⟩)
  exact e

theorem v81 (nl : Bool) (l : List Row) (hn : nl = true → l = []) (h : l.length ≤ 49) :
    ∃ s nl', isoCall (call dp) 81 [eRows nl l] = some (eRows nl' s) ∧ Asc s ∧ (∀ r, r ∈ s ↔ r ∈ l) ∧ (nl' = true → s = []) := by
  let P : D → Prop := fun r => ∃ s nl', r = eRows nl' s ∧ Asc s ∧ (∀ r, r ∈ s ↔ r ∈ l) ∧ (nl' = true → s = [])
  suffices hh : ∃ r, isoCall (call dp) 81 [eRows nl l] = some r ∧ P r by
    obtain ⟨r, e, s, nl', rfl, h1, h2⟩ := hh
    exact ⟨s, nl', e, h1, h2⟩
  apply j81 _ _ (by simp [noRefL]) (by rintro r ⟨s, nl', rfl, _⟩; simp)
  rw [strip_eRows]
  by_cases hl : l = []
  · subst hl
    have key : s81 (call dp) (eRows nl []) [] (fun d _ => P (stripT d)) ↔ OX (call dp 1049 [eRows nl []] []) fun p2 => OX (call dp 122 [p2.1, cmpF] p2.2) fun p4 => OX (call dp 124 [p2.1] p4.2) fun p6 => OX (fzD p6.1 p6.2) fun p7 => P (stripT p7.1) := Iff.rfl
    rw [key]
    obtain ⟨o, e1049⟩ : ∃ o, call dp 1049 [eRows nl []] [] = some (.sl 2 nl [] o, []) := by
      cases nl with
      | true =>
        obtain ⟨r, S', e, rfl, rfl⟩ := f1049 (eRows true []) [] (fun r S' => r = .sl 2 true [] .ro ∧ S' = []) (by simp [s1049])
        exact ⟨_, e⟩
      | false =>
        obtain ⟨r, S', e, rfl, rfl⟩ := f1049 (eRows false []) [] (fun r S' => r = .sl 2 false [] .cap0 ∧ S' = []) (by
          have hb : binD .eql .sl (.sl 2 false [] .ro) (.sl 2 true [] .ro) = some (.b false) := rfl
          simp [s1049, appD, eRows, maxLenD, hb])
        exact ⟨_, e⟩
    have e124 : call dp 124 [.sl 2 nl [] o] [] = some (.sl 2 nl [] o, []) := by
      obtain ⟨r, S', e, rfl, rfl⟩ := f124 (.sl 2 nl [] o) [] (fun r S' => r = .sl 2 nl [] o ∧ S' = []) (by simp [s124])
      exact e
    simp only [e1049, OX_some, v122e, e124, fzD]
    exact ⟨[], nl, rfl, List.Pairwise.nil, by simp, by simp⟩
  · have hnl : nl = false := by
      cases nl with
      | true => exact absurd (hn rfl) hl
      | false => rfl
    subst hnl
    have hlen : 0 < l.length := List.length_pos_iff.2 hl
    have e1049 : call dp 1049 [eRows false l] [] = some (arN 0 l.length, put [.gone] 0 l.toArray) := by
      obtain ⟨r, S', e, rfl, rfl⟩ := f1049 (eRows false l) [] (fun r S' => r = arN 0 l.length ∧ S' = put [.gone] 0 l.toArray) (by
        have hm : (l.map eRow).isEmpty = false := by cases l <;> simp_all
        have hml : l.length ≤ maxLenD := by simp [maxLenD]; omega
        have hb : binD .eql .sl (.sl 2 false (l.map eRow) .ro) (.sl 2 true [] .ro) = some (.b false) := rfl
        simp [s1049, appD, eRows, hm, hml, hl, hb]
        exact ⟨rfl, rfl⟩)
      exact e
    have hid : 0 < ([.gone] : Store).length := by simp
    obtain ⟨L, d', e122, hp, hs⟩ := v122 (S := [.gone]) (id := 0) (n := l.length) (d := l.toArray) hid (by simp) h
    have hid' : 0 < (L ++ [Ent.gone]).length := by simp
    have hsz : d'.size = l.length := by rw [hp.1]; simp
    obtain ⟨k, cs, S', e124, hg, hk, hcs⟩ := v124 (S := L ++ [.gone]) (id := 0) (n := l.length) (d := d') hid' hsz hlen (by omega)
    let g : Nat → Row := fun i => d'[i]!
    change k = (ddN g l.length).length at hk
    change cs.take (2 * k) = flatL (ddN g l.length) at hcs
    have hle : 2 * k ≤ cs.length := by
      have := congrArg List.length hcs
      rw [List.length_take, flatL_len, ← hk] at this
      omega
    have hfz : fzD (.ar 2 0 0 k) S' = some (.sl 2 false (chunks 2 k cs) .ro, sset S' 0 .gone) := by
      simp only [fzD, hg]
      rw [if_pos (by omega)]
      rfl
    have key : s81 (call dp) (eRows false l) [] (fun d _ => P (stripT d)) ↔ OX (call dp 1049 [eRows false l] []) fun p2 => OX (call dp 122 [p2.1, cmpF] p2.2) fun p4 => OX (call dp 124 [p2.1] p4.2) fun p6 => OX (fzD p6.1 p6.2) fun p7 => P (stripT p7.1) := Iff.rfl
    rw [key]
    simp only [e1049, OX_some, e122, e124, hfz, chunks_take k cs (ddN g l.length) hk.symm hcs]
    refine ⟨ddN g l.length, false, rfl, ddN_asc g l.length (fun i j hij hj => hs i j (by omega) hij hj) _ (Nat.le_refl _), ?_, by simp⟩
    intro r
    rw [ddN_mem]
    have hperm : d'.toList.Perm l := by
      have := hp.2.2
      have e1 : d'.extract 0 l.length = d' := by rw [← hsz]; simp
      have e2 : l.toArray.extract 0 l.length = l.toArray := by simp
      rw [e1, e2] at this
      exact this
    rw [← hperm.mem_iff]
    constructor
    · rintro ⟨i, hi, rfl⟩
      exact List.mem_of_getElem? (getE (d := d') (by omega))
    · intro hr
      obtain ⟨i, hi, e⟩ := List.mem_iff_getElem.1 hr
      refine ⟨i, by simp at hi; omega, ?_⟩
      have := getE (d := d') (k := i) (by simpa using hi)
      rw [List.getElem?_eq_getElem hi, e] at this
      exact (Option.some.inj this).symm

end Go.Proofs.YtjlmeikcfdanmaaGreatDoor.DE.V

namespace Go.Proofs.YtjlmeikcfdanmaaGreatDoor.DE.V
open Go BT


theorem Sh_take {n : Nat} {ns : List Nd} (k : Nat) (h : Sh n ns) : Sh n (ns.take k) := Sh_pre (ms := ns.drop k) (by rwa [List.take_append_drop])

theorem lev_take {n k : Nat} {ns : List Nd} {r : Int} (h : r < k + 2) (hk : k ≤ ns.length) : lev n (ns.take k) r = lev n ns r := by
  have := lev_app (n := n) (ns := ns.take k) (ns.drop k) (r := r) (by rw [List.length_take]; omega)
  rw [List.take_append_drop] at this
  exact this.symm

theorem assoc_true {α : Type} [DecidableEq α] (x : α) : ∀ l : List α, assoc x (l.map fun r => (r, true)) = if x ∈ l then some true else none
  | [] => by simp [assoc]
  | y :: l => by
    simp only [List.map_cons, assoc, assoc_true x l, List.mem_cons]
    by_cases h : x = y <;> simp [h]

/-- The reading of a set of what was seen. -/
theorem seenD {α : Type} [DecidableEq α] {kk : KK} {ek : α → D} (h : KeyE kk ek) {a : α} (hk : isKey kk (ek a) = true) {S : Store} {id : Nat} {l : List α} (hS : sget S id = some (.map (eMap ek D.b (l.map fun r => (r, true))))) :
    lkD' kk false (.b false) S (.mp id) (ek a) = some (.b (decide (a ∈ l))) := by
  rw [lkD'_mp h hk hS, assoc_true]
  split <;> simp [*]

theorem seenU {α : Type} [DecidableEq α] {kk : KK} {ek : α → D} (h : KeyE kk ek) {a : α} (hk : isKey kk (ek a) = true) {S : Store} {id : Nat} {l : List α} (hS : sget S id = some (.map (eMap ek D.b (l.map fun r => (r, true))))) (ha : a ∉ l) :
    muD' kk S (.mp id) (ek a) (.b true) = some (sset S id (.map (eMap ek D.b ((l ++ [a]).map fun r => (r, true))))) := by
  rw [muD'_new h hk hS (ev := D.b) (b := true) (by rw [assoc_true, if_neg ha])]
  simp

open Classical in
theorem v71 (nl nl' : Bool) (ord : List Row) (ns : List Nd) (root : Int) (hb : Bd (ns.length + 2)) :
    isoCall (call dp) 71 [eB nl nl' ord ns root] = some (.b (decide (Sh ord.length ns ∧ 0 ≤ root ∧ root < ns.length + 2))) := by
  obtain ⟨c, hc⟩ : ∃ c, c = decide (Sh ord.length ns ∧ 0 ≤ root ∧ root < ns.length + 2) := ⟨_, rfl⟩
  rw [← hc]
  apply i71 _ _ (by simp [noRefL]) rfl
  simp [s71]
  let J : Nat → List D → Store → Prop := fun q fr S => ∃ k a2 a12, k + q = ns.length ∧ Sh ord.length (ns.take k) ∧ sget S 0 = some (.box [eRows nl ord, eNds nl' ns, .i .i64 root]) ∧ sget S 1 = some (.map (eMap (fun r : Nd => .agg (eNd r)) D.b ((ns.take k).map fun r => (r, true)))) ∧
    fr = mkf 98 [(1, .bx 0 0), (2, a2), (3, .mp 1), (9, eNds nl' ns), (10, .i .i64 ns.length), (11, .i .i64 k), (12, a12)]
  refine W_loop J ?_ ns.length _ _ ⟨0, _, _, by simp, by simp [Sh_nil], by simp, by simp [eMap], rfl⟩
  rintro q fr S ⟨k, a2, a12, hk, ho, hS0, hS1, rfl⟩
  rw [← wp_W, e71_0]
  simp [s71_0]
  split
  · rename_i h
    obtain ⟨x, hx⟩ : ∃ x, ns[k]? = some x := ⟨_, List.getElem?_eq_getElem (by omega)⟩
    have ht := take_snoc hx
    have hlt := sget_lt hS1
    have hne : S ≠ [] := by intro e; simp [e] at hlt
    have h1ne : ¬ 1 = S.length := by omega
    have h0ne : ¬ 0 = S.length := by omega
    have w2 : IntKind.i64.wrap ((k : Int) + 2) = k + 2 := wrap64 ⟨by omega, by unfold Bd at hb; omega⟩
    have hok : Sh ord.length ns → okNd ord.length (ns.take k) x := fun hs => (Sh_snoc.1 (ht ▸ Sh_take (k + 1) hs)).2
    have hok' : okNd ord.length (ns.take k) x → Sh ord.length (ns.take (k + 1)) := fun h => by rw [ht]; exact Sh_snoc.2 ⟨ho, h⟩
    have hl : (ns.take k).length = k := by rw [List.length_take]; omega
    have hS1' : sget (Ent.box (eNd x) :: S) 1 = _ := sget_push hS1
    have hS0' : sget (Ent.box (eNd x) :: S) 0 = _ := sget_push hS0
    have hseen := seenD keyE_nd (isKey_nd x) hS1'
    by_cases hin : 0 ≤ x.2.1 ∧ 0 ≤ x.2.2 ∧ x.2.1 < k + 2 ∧ x.2.2 < k + 2
    · obtain ⟨i1, i2, i3, i4⟩ := hin
      have e1 := v77 nl nl' ord ns root x.2.1 ⟨by omega, by unfold Bd at hb; omega⟩ (by omega)
      have e2 := v77 nl nl' ord ns root x.2.2 ⟨by omega, by unfold Bd at hb; omega⟩ (by omega)
      rw [← lev_take i3 (by omega)] at e1
      rw [← lev_take i4 (by omega)] at e2
      simp only [eB] at e1 e2
      by_cases hx' : okNd ord.length (ns.take k) x
      · obtain ⟨⟨c1, c2⟩, -, c3, ⟨c4, c5⟩, c6⟩ := hx'
        have hu := seenU keyE_nd (isKey_nd x) hS1' c6
        have f1 : ¬ x.1 < 0 := by omega
        have f2 : ¬ (ord.length : Int) ≤ x.1 := by omega
        have f4 : ¬ lev ord.length (ns.take k) x.2.1 ≤ x.1 := by omega
        have f5 : ¬ lev ord.length (ns.take k) x.2.2 ≤ x.1 := by omega
        simp [-sset_cons, iaD_nds _ hx, w2, hS0, h0ne, i1, i2, i3, i4, e1, e2, f1, f2, c3, f4, f5, c6, hseen, hu, wrapS (show Bd k by unfold Bd at *; omega)]
        refine ⟨q - 1, by omega, k + 1, _, _, by omega, hok' ⟨⟨c1, c2⟩, by rw [hl]; exact ⟨⟨i1, i3⟩, ⟨i2, i4⟩⟩, c3, ⟨c4, c5⟩, c6⟩, ?_, ?_, rfl⟩
        · rw [sget_sset_ne _ (by omega)]; exact hS0'
        · have := sget_sset (Ent.map (eMap (fun r : Nd => .agg (eNd r)) D.b ((ns.take k ++ [x]).map fun r => (r, true)))) (sget_lt hS1')
          rw [ht]
          simpa [-sset_cons] using this
      · have hno : c = false := by rw [hc]; exact decide_eq_false fun hs => hx' (hok hs.1)
        simp [iaD_nds _ hx, w2, hS0, h0ne, i1, i2, i3, i4, e1, e2, hseen, hno]
        intro f1 f2 f3 f4 f5 f6
        exact absurd ⟨⟨f1, f2⟩, by rw [hl]; exact ⟨⟨i1, i3⟩, ⟨i2, i4⟩⟩, f3, ⟨f5, f6⟩, f4⟩ hx'
    · have hno : c = false := by rw [hc]; exact decide_eq_false fun hs => hin (by have := (hok hs.1).2.1; rw [hl] at this; omega)
      simp [iaD_nds _ hx, w2, hS0, h0ne, hseen, hno]
      intro i1 i2 i3 i4
      exact absurd ⟨i1, i2, i3, i4⟩ hin
  · have : ns.take k = ns := List.take_of_length_le (by omega)
    rw [this] at ho
    simp [e71_r0, s71_r0, ho, hS0]
    rw [wrap64 ⟨by omega, by unfold Bd at hb; omega⟩]
    simp [ho] at hc
    by_cases h1 : 0 ≤ root
    · by_cases h2 : root < ns.length + 2
      · simp [h1, h2, hc]
      · simp [h1, h2, hc]
    · simp [h1, hc]

/-! The walk in depth. -/
def Pres (S S' : Store) : Prop := ∀ id cs, sget S id = some (.box cs) → sget S' id = some (.box cs)
theorem Pres.refl (S : Store) : Pres S S := fun _ _ h => h
theorem Pres.trans {S S' S'' : Store} (h : Pres S S') (k : Pres S' S'') : Pres S S'' := fun id cs e => k id cs (h id cs e)
theorem Pres.push (e : Ent) (S : Store) : Pres S (e :: S) := fun _ _ h => sget_push h
theorem Pres.tok {S : Store} {t : Nat} {b : Bool} (c : Bool) (h : sget S t = some (.tok b)) : Pres S (sset S t (.tok c)) := by
  intro id cs e
  rw [sget_sset_ne]
  · exact e
  · rintro rfl; rw [h] at e; cases e

def eInts (nl : Bool) (l : List Int) (o : Own) : D := .sl 1 nl (l.map fun n => [.i .i64 n]) o

/-- A slice that may be appended to: nil, or with its holder alive. -/
def Liv (S : Store) (nl : Bool) (n : Nat) (o : Own) : Prop := (nl = true ∧ n = 0 ∧ o = .ro) ∨ (nl = false ∧ ∃ t, o = .tok t ∧ sget S t = some (.tok true))

theorem Liv.push {S : Store} {nl : Bool} {n : Nat} {o : Own} (e : Ent) (h : Liv S nl n o) : Liv (e :: S) nl n o := by
  rcases h with h | ⟨h, t, ho, ht⟩
  · exact .inl h
  · exact .inr ⟨h, t, ho, sget_push ht⟩

theorem app_liv {k : Nat} {nl n' : Bool} {xs : List (List D)} {ys : List (List D)} {o o' : Own} {S : Store} (h : Liv S nl xs.length o) (hl : xs.length + ys.length ≤ maxLenD) (hy : ys ≠ []) :
    ∃ t S', appD k false (.sl k nl xs o) (.sl k n' ys o') S = some (.sl k false (xs ++ ys) (.tok t), S') ∧ sget S' t = some (.tok true) ∧ Pres S S' ∧ (∀ id es, sget S id = some (.map es) → sget S' id = some (.map es)) ∧ S'.length = S.length + 1 ∧ t = S.length ∧ ∀ id e, sget S id = some e → (∀ t, o = .tok t → id ≠ t) → sget S' id = some e := by
  rcases h with ⟨h1, h2, h3⟩ | ⟨h1, t, ho, ht⟩
  · subst h1 h3
    have : xs = [] := List.length_eq_zero_iff.1 h2
    subst this
    refine ⟨S.length, .tok true :: S, ?_, by simp, Pres.push _ _, fun _ _ e => sget_push e, by simp, rfl, fun _ _ e _ => sget_push e⟩
    rw [app_nil (o := .ro) S (by simpa using hl) (by intro t e; cases e), if_neg hy]
    rfl
  · subst h1 ho
    refine ⟨S.length, .tok true :: sset S t (.tok false), app_tok S hl ht, ?_, ?_, ?_, by simp [sset_len], rfl, fun id e he hne => sget_push (by rw [sget_sset_ne _ (hne t rfl)]; exact he)⟩
    · have := sget_top (Ent.tok true) (sset S t (.tok false))
      rwa [sset_len] at this
    · exact (Pres.tok false ht).trans (Pres.push _ _)
    · intro id es e
      apply sget_push
      rw [sget_sset_ne]
      · exact e
      · rintro rfl; rw [ht] at e; cases e

theorem Her_sub {L : List T} (h : Cl L) : Her (sub L) := fun _ _ _ k => Cl_kids h _ k

theorem Cl_nodup {L : List T} : Cl L → L.Nodup := by
  induction L using snoc_ind with
  | h0 => intro _; simp
  | h1 L t ih => intro h; obtain ⟨a, b, _⟩ := Cl_snoc.1 h; exact nodup_snoc.2 ⟨ih a, b⟩

theorem nodup_len {α : Type} [DecidableEq α] : ∀ {M L : List α}, M.Nodup → (∀ x, x ∈ M → x ∈ L) → M.length ≤ L.length
  | [], _, _, _ => Nat.zero_le _
  | x :: M, L, hn, hs => by
    have hx : x ∈ L := hs x (by simp)
    have hn' := List.nodup_cons.1 hn
    have := nodup_len (M := M) (L := L.erase x) hn'.2 (fun y hy => (List.mem_erase_of_ne (by rintro rfl; exact hn'.1 hy)).2 (hs y (List.mem_cons_of_mem _ hy)))
    rw [List.length_erase_of_mem hx] at this
    have := List.length_pos_of_mem hx
    simp only [List.length_cons]
    omega

/-- What the walk holds: behind M, within L. -/
theorem post_in {L M : List T} {t : T} (hL : Cl L) (hM : Cl M) (hs : ∀ s, s ∈ M → s ∈ L) (ht : sub L t) : Cl (post t M) ∧ sub (post t M) t ∧ (∀ s, s ∈ post t M → s ∈ L) ∧ (post t M).length ≤ L.length := by
  obtain ⟨N, e, c, st, p, _⟩ := post_spec t M hM
  rw [e]
  have hin : ∀ s, s ∈ M ++ N → s ∈ L := by
    intro s h
    have hk := Cl_kids c s h
    rcases List.mem_append.1 h with h | h
    · exact hs s h
    · have := p _ (Her_sub hL) ht s h
      revert hk this
      cases s with
      | leaf _ => exact fun h => h.elim
      | node _ _ _ => exact fun _ h => h
  exact ⟨c, st, hin, nodup_len (Cl_nodup c) hin⟩

@[simp] theorem eInts_len (nl : Bool) (l : List Int) (o : Own) : lenD false (eInts nl l o) = some (.i .i64 l.length) := by simp [eInts, lenD]

end Go.Proofs.YtjlmeikcfdanmaaGreatDoor.DE.V

namespace Go.Proofs.YtjlmeikcfdanmaaGreatDoor.DE.V
open Go BT


/-- A valid diagram. -/
def VB (ord : List Row) (ns : List Nd) (root : Int) : Prop :=
  (OrdOk ord ∧ ord.length ≤ 4096) ∧ ns.length ≤ 4096 ∧ (Sh ord.length ns ∧ 0 ≤ root ∧ root < ns.length + 2) ∧ ∃ t, Cano ns root t

theorem okNd_of {n : Nat} {ns : List Nd} {k : Nat} {x : Nd} (hx : ns[k]? = some x) (h : Sh n ns) : okNd n (ns.take k) x :=
  (Sh_snoc.1 (take_snoc hx ▸ Sh_take (k + 1) h)).2

end Go.Proofs.YtjlmeikcfdanmaaGreatDoor.DE.V

namespace Go.Proofs.YtjlmeikcfdanmaaGreatDoor.DE.V
open Go BT


theorem sub_of {L : List T} (hL : Cl L) : ∀ x, x ∈ L → sub L x := by
  intro x hx
  have := Cl_kids hL x hx
  revert this hx
  cases x with
  | leaf _ => exact fun _ h => h.elim
  | node _ _ _ => exact fun h _ => h

/-- The entries stay, but for those of p. -/
def Keep (p : Nat → Prop) (S S' : Store) : Prop := ∀ id e, ¬ p id → sget S id = some e → sget S' id = some e
theorem Keep.push (p : Nat → Prop) (e : Ent) (S : Store) : Keep p S (e :: S) := fun _ _ _ h => sget_push h
theorem Keep.sset {p : Nat → Prop} {S : Store} (id : Nat) (x : Ent) (h : p id) : Keep p S (sset S id x) := fun j e hj k => by
  rw [sget_sset_ne]
  · exact k
  · rintro rfl; exact hj h
theorem Keep.trans {p : Nat → Prop} {S S' S'' : Store} (h : Keep p S S') (k : Keep p S' S'') : Keep p S S'' := fun id e hp he => k id e hp (h id e hp he)

/-- The map of 'done' and the nodes written, behind the trees of M. -/
noncomputable def numM (L M : List T) : List (Int × Int) := (0, 0) :: (1, 1) :: M.map fun s => (code L s, code M s)

def eI (n : Int) : D := .i .i64 n

/-- What 'visit' finds in the store. -/
def NumI (nl' : Bool) (q r : D) (L : List T) (i1 i2 i3 i4 im : Nat) (M : List T) (S : Store) : Prop :=
  sget S i1 = some (.box [.mp im]) ∧ sget S im = some (.map (eMap eI eI (numM L M))) ∧ sget S i2 = some (.box [eNds nl' (nds L)]) ∧
  sget S i3 = some (.box [.fn 115 [.bx i1 0, .bx i2 0, .bx i3 0, .bx i4 0]]) ∧ ∃ n o, sget S i4 = some (.box [q, .sl 3 n ((nds M).map eNd) o, r]) ∧ Liv S n M.length o

/-- Boxes other than p stay. -/
def PresB (p : Nat) (S S' : Store) : Prop := ∀ id cs, id ≠ p → sget S id = some (.box cs) → sget S' id = some (.box cs)
theorem PresB.trans {p : Nat} {S S' S'' : Store} (h : PresB p S S') (k : PresB p S' S'') : PresB p S S'' := fun id cs hp e => k id cs hp (h id cs hp e)
theorem PresB.push (p : Nat) (e : Ent) (S : Store) : PresB p S (e :: S) := fun _ _ _ h => sget_push h
theorem PresB.refl (p : Nat) (S : Store) : PresB p S S := fun _ _ _ h => h
theorem Pres.B {S S' : Store} (p : Nat) (h : Pres S S') : PresB p S S' := fun id cs _ e => h id cs e

theorem assoc_code {L : List T} {M : List T} (hM : ∀ s, s ∈ M → sub L s) {t : T} (ht : sub L t) (f : T → Int) : ∀ (h : ∀ v l h, t = .node v l h → True), assoc (code L t) (M.map fun s => (code L s, f s)) = if t ∈ M then some (f t) else none := by
  intro _
  induction M with
  | nil => simp [assoc]
  | cons s M ih =>
    simp only [List.map_cons, assoc]
    have ih := ih (fun s hs => hM s (List.mem_cons_of_mem _ hs))
    by_cases e : t = s
    · subst e; simp
    · have : code L t ≠ code L s := fun h => e (code_inj ht (hM s (by simp)) h)
      simp [this, ih, e]

theorem keyE_eI : KeyE (.one .i) eI := keyE_i
theorem deq_i (n : Int) : deq (.i .i64 n) (.i .i64 n) = true := by simp [deq]
theorem deq_fn4 (a b c d : Nat) : deq (.fn 115 [.bx a 0, .bx b 0, .bx c 0, .bx d 0]) (.fn 115 [.bx a 0, .bx b 0, .bx c 0, .bx d 0]) = true := by simp [deq, deqL]

theorem NumI_keep {nl' : Bool} {q r : D} {L : List T} {i1 i2 i3 i4 im : Nat} {M : List T} {S S' : Store} {p : Nat → Prop} (h : NumI nl' q r L i1 i2 i3 i4 im M S) (hk : Keep p S S')
    (p1 : ¬ p i1) (p2 : ¬ p i2) (p3 : ¬ p i3) (p4 : ¬ p i4) (pm : ¬ p im) (pt : ∀ t, p t → sget S t ≠ some (.tok true)) : NumI nl' q r L i1 i2 i3 i4 im M S' := by
  obtain ⟨a, b, c, d, n, o, e, l⟩ := h
  refine ⟨hk _ _ p1 a, hk _ _ pm b, hk _ _ p2 c, hk _ _ p3 d, n, o, hk _ _ p4 e, ?_⟩
  rcases l with l | ⟨l1, t, l2, l3⟩
  · exact .inl l
  · exact .inr ⟨l1, t, l2, hk _ _ (fun k => pt t k l3) l3⟩

theorem numM_snoc {L M : List T} {t : T} {v : Nat} {l h : T} (hM : ∀ s, s ∈ M → sub M s) (ht : T.node v l h = t) (hn : t ∉ M) : numM L (M ++ [t]) = numM L M ++ [(code L t, (M.length : Int) + 2)] := by
  subst ht
  simp only [numM, List.map_append, List.cons_append, List.map_cons, List.map_nil]
  congr 3
  · apply List.map_congr_left
    intro s hs
    rw [code_app _ (hM s hs)]
  · simp only [code]
    rw [pos_new [] hn]

theorem v115 (nl' : Bool) (q r : D) {L : List T} (hc : Cl L) (hb : L.length ≤ 1000000) (i1 i2 i3 i4 im : Nat) (h41 : i4 ≠ i1) (h42 : i4 ≠ i2) (h43 : i4 ≠ i3) : ∀ (t : T) (M : List T) (S : Store), sub L t → Cl M → (∀ s, s ∈ M → s ∈ L) → NumI nl' q r L i1 i2 i3 i4 im M S →
    ∃ S', call dp 115 [.i .i64 (code L t), .bx i1 0, .bx i2 0, .bx i3 0, .bx i4 0] S = some (.i .i64 (code (post t M) t), S') ∧ NumI nl' q r L i1 i2 i3 i4 im (post t M) S' ∧ PresB i4 S S' := by
  intro t
  induction t with
  | leaf b =>
    intro M S ht hM hML hI
    let P : D → Store → Prop := fun r' S' => r' = .i .i64 (code M (.leaf b)) ∧ S' = S
    obtain ⟨r', S', e, rfl, rfl⟩ := f115 (.i .i64 (code L (.leaf b))) (.bx i1 0) (.bx i2 0) (.bx i3 0) (.bx i4 0) S P (by
      simp [s115, hI.1]
      have := lkD'_mp keyE_eI (a := code L (.leaf b)) rfl hI.2.1 true (.i .i64 0)
      rw [show D.i .i64 (code L (.leaf b)) = eI (code L (.leaf b)) from rfl, this]
      cases b <;> simp [numM, assoc, code, eI] <;> exact ⟨rfl, rfl⟩)
    exact ⟨S', e, hI, PresB.refl _ _⟩
  | node v l h ihl ihh =>
    intro M S ht hM hML hI
    obtain ⟨kl, kh⟩ := Cl_kids hc _ ht
    have hge := code_node_ge L v l h
    have hlt := code_lt ht
    have hpos : (code L (.node v l h) - 2).toNat = pos L (.node v l h) := by simp only [code]; omega
    have hnd := nds_get ht
    have hMs : ∀ s, s ∈ M → sub L s := fun s hs => sub_of hc s (hML s hs)
    let P : D → Store → Prop := fun r' S' => r' = .i .i64 (code (post (.node v l h) M) (.node v l h)) ∧ NumI nl' q r L i1 i2 i3 i4 im (post (.node v l h) M) S' ∧ PresB i4 S S'
    have hlook : assoc (code L (.node v l h)) (numM L M) = if T.node v l h ∈ M then some (code M (.node v l h)) else none := by
      have h0 : ¬ code L (.node v l h) = 0 := by omega
      have h1 : ¬ code L (.node v l h) = 1 := by omega
      simp only [numM, assoc, h0, h1, if_false]
      exact assoc_code hMs ht _ (fun _ _ _ _ => trivial)
    obtain ⟨r', S', e, rfl, h1, h2⟩ := f115 (.i .i64 (code L (.node v l h))) (.bx i1 0) (.bx i2 0) (.bx i3 0) (.bx i4 0) S P (by
      have hlk := lkD'_mp keyE_eI (a := code L (.node v l h)) rfl hI.2.1 true (.i .i64 0)
      rw [hlook] at hlk
      simp only [eI] at hlk
      simp [s115, hI.1, hlk]
      by_cases hm : T.node v l h ∈ M
      · have hp : post (.node v l h) M = M := by rw [post, if_pos hm]
        simp [hm]
        exact ⟨by rw [hp]; rfl, by rw [hp]; exact hI, PresB.refl _ _⟩
      · simp [hm, hI.2.2.1, hI.2.2.2.1]
        rw [wrap64 ⟨by omega, by omega⟩, iaD_nds' _ (by omega) (by rw [hpos]; exact hnd)]
        obtain ⟨c1, s1, m1, z1⟩ := post_in hc hM hML kl
        obtain ⟨c2, s2, m2, z2⟩ := post_in hc c1 m1 kh
        have hp : post (.node v l h) M = post h (post l M) ++ [.node v l h] := by rw [post, if_neg hm]
        have hpi := post_in hc hM hML ht
        rw [hp] at hpi
        obtain ⟨N2, e2, _⟩ := post_spec h (post l M) c1
        have hcode : code (post h (post l M)) l = code (post l M) l := by rw [e2, code_app _ s1]
        have hz : (post h (post l M)).length + 1 ≤ L.length := by simpa using hpi.2.2.2
        have hnm : T.node v l h ∉ post h (post l M) := (Cl_snoc.1 hpi.1).2.1
        have g1 := sget_lt hI.1
        have g2 := sget_lt hI.2.2.1
        have g3 := sget_lt hI.2.2.2.1
        have gm := sget_lt hI.2.1
        have g4 : i4 < S.length := by obtain ⟨_, _, _, _, _, _, e, _⟩ := hI; exact sget_lt e
        have hm1 : im ≠ i4 := by rintro rfl; obtain ⟨_, b, _, _, _, _, e, _⟩ := hI; rw [b] at e; cases e
        have hI1 := NumI_keep hI (Keep.push (fun _ => False) (.box (eNd (nd L (.node v l h)))) S) id id id id id (fun _ k => k.elim)
        obtain ⟨S1, q1, I1, P1⟩ := ihl M _ kl hM hML hI1
        obtain ⟨S2, q2, I2, P2⟩ := ihh (post l M) S1 kh c1 m1 I1
        have b0 : sget (Ent.box (eNd (nd L (.node v l h))) :: S) S.length = some (.box (eNd (nd L (.node v l h)))) := by simp
        have b1 := P1 _ _ (by omega) b0
        have b2 := P2 _ _ (by omega) b1
        have hS : PresB i4 S (Ent.box (eNd (nd L (.node v l h))) :: S) := PresB.push _ _ _
        simp only [OX_some, ldD_el_nd, cellsK_nd, Option.bind_some, splice_nd]
        simp only [nd] at b0 b1 b2 hI1 q1 P1 hS ⊢
        generalize Ent.box (eNd ((v : Int), code L l, code L h)) :: S = Sa at *
        simp only [b0, hI1.2.2.2.1, ldE_box, rdK_one, nd_1, nd_2, List.getElem?_cons_zero, OX_some, fnD_fn, q1, I1.2.2.2.1, deq_fn4, true_and, b1, deq_i, q2, b2]
        simp only [eNd, stE3_1, isCell_i, OX_some]
        have hlt2 := sget_lt b2
        have b3 : sget (sset S2 S.length (.box [.i .i64 v, .i .i64 (code (post l M) l), .i .i64 (code L h)])) S.length = _ := sget_sset _ hlt2
        simp only [b3, stE3_2, isCell_i, OX_some]
        have k3 : Keep (fun j => j = S.length) S2 (sset (sset S2 S.length (.box [.i .i64 v, .i .i64 (code (post l M) l), .i .i64 (code L h)])) S.length (.box [.i .i64 v, .i .i64 (code (post l M) l), .i .i64 (code (post h (post l M)) h)])) :=
          (Keep.sset (p := fun j => j = S.length) _ _ rfl).trans (Keep.sset (p := fun j => j = S.length) _ _ rfl)
        have I3 := NumI_keep I2 k3 (by omega) (by omega) (by omega) (by omega) (by omega) (by rintro _ rfl h; rw [b2] at h; cases h)
        have b4 : sget (sset (sset S2 S.length (.box [.i .i64 v, .i .i64 (code (post l M) l), .i .i64 (code L h)])) S.length (.box [.i .i64 v, .i .i64 (code (post l M) l), .i .i64 (code (post h (post l M)) h)])) S.length = _ := sget_sset _ (by rw [sset_len]; exact hlt2)
        generalize sset (sset S2 S.length (.box [.i .i64 v, .i .i64 (code (post l M) l), .i .i64 (code L h)])) S.length (.box [.i .i64 v, .i .i64 (code (post l M) l), .i .i64 (code (post h (post l M)) h)]) = S3 at *
        have P3 : PresB i4 S S3 := by
          intro id cs hid e
          exact k3 _ _ (by have := sget_lt e; simp only; omega) (P2 _ _ hid (P1 _ _ hid (hS _ _ hid e)))
        obtain ⟨j1, jm, j2, j3, n, o, j4, jl⟩ := I3
        have hlk : ((nds (post h (post l M))).map eNd).length = (post h (post l M)).length := by rw [List.length_map, nds_len]
        obtain ⟨t', S4, q4, l4, p4, m4, z4⟩ := app_liv (k := 3) (n' := false) (xs := (nds (post h (post l M))).map eNd) (ys := [[.i .i64 v, .i .i64 (code (post l M) l), .i .i64 (code (post h (post l M)) h)]]) (o' := .ro) (by rw [hlk]; exact jl) (by rw [hlk]; simp [maxLenD]; omega) (by simp)
        have j4' := p4 _ _ j4
        simp only [j4, ldE_box, rdK_one, List.getElem?_cons_succ, List.getElem?_cons_zero, OX_some, b4, rdK_lit3]
        rw [show cellsV 3 true [D.agg [.i .i64 v, .i .i64 (code (post l M) l), .i .i64 (code (post h (post l M)) h)]] = some [[.i .i64 v, .i .i64 (code (post l M) l), .i .i64 (code (post h (post l M)) h)]] from rfl]
        simp only [OX_some, q4, j4', stE3_1, isCell_sl]
        have hX : (nds (post h (post l M))).map eNd ++ [[D.i .i64 v, .i .i64 (code (post l M) l), .i .i64 (code (post h (post l M)) h)]] = (nds (post h (post l M) ++ [.node v l h])).map eNd := by
          rw [nds_snoc hpi.1, List.map_append, ← hcode]; rfl
        rw [hX]
        have hlX : ((nds (post h (post l M) ++ [.node v l h])).map eNd).length = (post h (post l M)).length + 1 := by rw [List.length_map, nds_len]; simp
        have a1 := j1
        have s1 : sget (sset S4 i4 (.box [q, .sl 3 false ((nds (post h (post l M) ++ [.node v l h])).map eNd) (.tok t'), r])) i1 = _ := (sget_sset_ne _ (Ne.symm h41)).trans (p4 _ _ j1)
        have s2 : sget (sset S4 i4 (.box [q, .sl 3 false ((nds (post h (post l M) ++ [.node v l h])).map eNd) (.tok t'), r])) i2 = _ := (sget_sset_ne _ (Ne.symm h42)).trans (p4 _ _ j2)
        have s3 : sget (sset S4 i4 (.box [q, .sl 3 false ((nds (post h (post l M) ++ [.node v l h])).map eNd) (.tok t'), r])) i3 = _ := (sget_sset_ne _ (Ne.symm h43)).trans (p4 _ _ j3)
        have s4 : sget (sset S4 i4 (.box [q, .sl 3 false ((nds (post h (post l M) ++ [.node v l h])).map eNd) (.tok t'), r])) i4 = _ := sget_sset _ (sget_lt j4')
        have sm : sget (sset S4 i4 (.box [q, .sl 3 false ((nds (post h (post l M) ++ [.node v l h])).map eNd) (.tok t'), r])) im = _ := (sget_sset_ne _ hm1).trans (m4 _ _ jm)
        have st : sget (sset S4 i4 (.box [q, .sl 3 false ((nds (post h (post l M) ++ [.node v l h])).map eNd) (.tok t'), r])) t' = _ := (sget_sset_ne _ (by rintro rfl; rw [j4'] at l4; cases l4)).trans l4
        have P5 : PresB i4 S (sset S4 i4 (.box [q, .sl 3 false ((nds (post h (post l M) ++ [.node v l h])).map eNd) (.tok t'), r])) := fun id cs hid e => (sget_sset_ne _ hid).trans (p4 _ _ (P3 _ _ hid e))
        generalize sset S4 i4 (.box [q, .sl 3 false ((nds (post h (post l M) ++ [.node v l h])).map eNd) (.tok t'), r]) = S5 at *
        have hm2s : ∀ s, s ∈ post h (post l M) → sub (post h (post l M)) s := sub_of c2
        have hm2L : ∀ s, s ∈ post h (post l M) → sub L s := fun s hs => sub_of hc s (m2 s hs)
        have ha : assoc (code L (.node v l h)) (numM L (post h (post l M))) = none := by
          have h0 : ¬ code L (.node v l h) = 0 := by omega
          have h1 : ¬ code L (.node v l h) = 1 := by omega
          simp only [numM, assoc, h0, h1, if_false]
          rw [assoc_code hm2L ht _ (fun _ _ _ _ => trivial), if_neg hnm]
        have hmu := muD'_new keyE_eI (ev := eI) (a := code L (.node v l h)) (b := ((post h (post l M)).length : Int) + 2) rfl sm ha
        rw [← numM_snoc (v := v) (l := l) (h := h) hm2s rfl hnm] at hmu
        have hs6 := sget_sset (Ent.map (eMap eI eI (numM L (post h (post l M) ++ [.node v l h])))) (sget_lt sm)
        have hlk6 := lkD'_mp keyE_eI (a := code L (.node v l h)) rfl hs6 false (.i .i64 0)
        have has : assoc (code L (.node v l h)) (numM L (post h (post l M) ++ [.node v l h])) = some (((post h (post l M)).length : Int) + 2) := by
          rw [numM_snoc (v := v) (l := l) (h := h) hm2s rfl hnm, assoc_app, ha]
          simp [assoc]
        rw [has] at hlk6
        simp only [eI] at hmu hlk6
        have hi1 : im ≠ i1 := by rintro rfl; rw [sm] at s1; cases s1
        have hi2 : im ≠ i2 := by rintro rfl; rw [sm] at s2; cases s2
        have hi3 : im ≠ i3 := by rintro rfl; rw [sm] at s3; cases s3
        have hit : t' ≠ im := by rintro rfl; rw [sm] at st; cases st
        simp only [s1, s4, ldE_box, rdK_one, List.getElem?_cons_succ, List.getElem?_cons_zero, OX_some, lenD_sl, bin_sub, bin_add, hlX]
        rw [wrap64 (n := ((((post h (post l M)).length + 1 : Nat) : Int) - 1)) ⟨by omega, by omega⟩, wrap64 ⟨by omega, by omega⟩]
        have e9 : ((((post h (post l M)).length + 1 : Nat) : Int) - 1 + 2) = ((post h (post l M)).length : Int) + 2 := by omega
        rw [e9, hmu]
        simp only [OX_some, sget_sset_ne _ (Ne.symm hi1), s1, ldE_box, rdK_one, List.getElem?_cons_zero, hlk6, Option.map_some, okD_fs]
        refine ⟨?_, ?_, ?_⟩
        · rw [hp]
          simp only [code]
          rw [pos_new [] hnm]
          rfl
        · rw [hp]
          refine ⟨(sget_sset_ne _ (Ne.symm hi1)).trans s1, hs6, (sget_sset_ne _ (Ne.symm hi2)).trans s2, (sget_sset_ne _ (Ne.symm hi3)).trans s3, false, .tok t', (sget_sset_ne _ (Ne.symm hm1)).trans s4, .inr ⟨rfl, t', rfl, (sget_sset_ne _ hit).trans st⟩⟩
        · exact fun id cs hid e => (sget_sset_ne _ (by rintro rfl; rw [hI.2.1] at e; cases e)).trans (P5 _ _ hid e))
    exact ⟨S', e, h1, h2⟩

@[simp] theorem ldc_bx (S : Store) (k : Nat) (g : Bool) (id o : Nat) : ldc S k g (.bx id o) = ldE (sget S id) k g o := by simp only [ldc, ldD_bx]

theorem v72 (nl nl' : Bool) (ord : List Row) {L : List T} (hc : Cl L) (hb : L.length ≤ 1000000) (t : T) (ht : sub L t) (hn : nl = true → ord = []) (ho : ord.length ≤ maxLenD) :
    ∃ n : Bool, (n = true → post t [] = []) ∧ isoCall (call dp) 72 [eRows nl ord, eNds nl' (nds L), .i .i64 (code L t)] = some (eB nl n ord (nds (post t [])) (code (post t []) t)) := by
  let S0 : Store := [Ent.box [.fn 115 [.bx 4 0, .bx 0 0, .bx 5 0, .bx 2 0]], .box [.mp 3], .map [(.i .i64 0, .i .i64 0), (.i .i64 1, .i .i64 1)], .box [eRows nl ord, .sl 3 true [] .ro, .i .i64 0], .box [.sl 2 true [] .ro, .sl 3 true [] .ro, .i .i64 0], .box [eNds nl' (nds L)]]
  have hI : NumI nl' (eRows nl ord) (.i .i64 0) L 4 0 5 2 3 [] S0 := ⟨rfl, rfl, rfl, rfl, true, .ro, rfl, .inl ⟨rfl, rfl, rfl⟩⟩
  obtain ⟨S1, q1, ⟨I1, I2, I3, I4, n, o, I5, I6⟩, P1⟩ := v115 nl' (eRows nl ord) (.i .i64 0) hc hb 4 0 5 2 3 (by omega) (by omega) (by omega) t [] S0 ht Cl_nil (by simp) hI
  have hx3 : sget S1 1 = some (.box [.sl 2 true [] .ro, .sl 3 true [] .ro, .i .i64 0]) := P1 1 _ (by omega) rfl
  refine ⟨n, ?_, ?_⟩
  · rcases I6 with ⟨_, h, _⟩ | ⟨h, _⟩
    · exact fun _ => List.length_eq_zero_iff.1 h
    · intro k; rw [k] at h; cases h
  · apply i72 _ _ _ _ (by simp [noRefL]) (by simp)
    simp [s72, v49 nl ord hn ho, bldV, muD', isKey, isSK, muD, keq, seq1]
    change (call dp) 115 [.i .i64 (code L t), .bx 4 0, .bx 0 0, .bx 5 0, .bx 2 0] S0 = _ at q1
    have q1' := q1
    simp only [S0] at q1'
    rw [q1']
    have l2 := sget_lt I5
    have l1 := sget_lt hx3
    have e1 : sget (sset S1 2 (.box [eRows nl ord, .sl 3 n ((nds (post t [])).map eNd) o, .i .i64 (code (post t []) t)])) 2 = _ := sget_sset _ l2
    have e2 : sget (sset S1 2 (.box [eRows nl ord, .sl 3 n ((nds (post t [])).map eNd) o, .i .i64 (code (post t []) t)])) 1 = _ := (sget_sset_ne _ (by omega)).trans hx3
    have e3 : sget (sset (sset S1 2 (.box [eRows nl ord, .sl 3 n ((nds (post t [])).map eNd) o, .i .i64 (code (post t []) t)])) 1 (.box [eRows nl ord, .sl 3 n ((nds (post t [])).map eNd) o, .i .i64 (code (post t []) t)])) 1 = _ := sget_sset _ (by rw [sset_len]; exact l1)
    simp [I5, e1, e2, e3]
    rfl

end Go.Proofs.YtjlmeikcfdanmaaGreatDoor.DE.V

namespace Go.Proofs.YtjlmeikcfdanmaaGreatDoor.DE.V
open Go BT


open Classical in
theorem v33 (nl nl' : Bool) (ord : List Row) (ns : List Nd) (root : Int) (hn : nl = true → ord = []) (hb : Bd (ns.length + 2)) (hb' : Bd ord.length) :
    isoCall (call dp) 33 [eB nl nl' ord ns root] = some (.b (decide (VB ord ns root))) := by
  obtain ⟨c, hc⟩ : ∃ c, c = decide (VB ord ns root) := ⟨_, rfl⟩
  rw [← hc]
  have hf : ∀ P : Prop, (VB ord ns root → P) → ¬ P → c = false := fun P h1 h2 => by rw [hc]; exact decide_eq_false fun h => h2 (h1 h)
  have e71 := v71 nl nl' ord ns root hb
  simp only [eB] at e71
  apply i33 _ _ (by simp [noRefL]) rfl
  simp [s33, v48 _ _ hb', e71]
  by_cases h1 : OrdOk ord ∧ ord.length ≤ 4096
  case neg =>
    have := hf _ (fun h => h.1) h1
    simp [this]
    intro q1 q2
    exact absurd ⟨q1, q2⟩ h1
  by_cases h2 : ns.length ≤ 4096
  case neg =>
    have := hf _ (fun h => h.2.1) h2
    simp [h1, this]
    intro q1; exact absurd (show ns.length ≤ 4096 by omega) h2
  have f2 : ¬ (4096 : Int) < ns.length := by omega
  by_cases h3 : Sh ord.length ns ∧ 0 ≤ root ∧ root < ns.length + 2
  case neg =>
    have := hf _ (fun h => h.2.2.1) h3
    simp [h1, f2, this]
    intro q1 q2 q3; exact absurd ⟨q1, q2, q3⟩ h3
  obtain ⟨ho, h4, h5⟩ := h3
  obtain ⟨L, hL, e, hw⟩ := Sh_trees ho
  subst e
  rw [nds_len] at *
  obtain ⟨t, ht, rfl, _⟩ := code_all hL h4 h5
  have hcan : VB ord (nds L) (code L t) ↔ post t [] = L := by
    rw [← Cano_iff hL ht]
    exact ⟨fun h => h.2.2.2, fun h => ⟨h1, by rw [nds_len]; exact h2, ⟨ho, h4, by rw [nds_len]; exact h5⟩, h⟩⟩
  have hc' : c = true ↔ post t [] = L := by rw [hc, decide_eq_true_iff]; exact hcan
  obtain ⟨n, _, e72⟩ := v72 nl nl' ord hL (by omega) t ht hn (by simp [maxLenD]; omega)
  simp [h1, f2, ho, h4, h5, e72, v73 n nl' (nds (post t [])) (nds L) (by rw [nds_len]; unfold Bd at *; omega)]
  obtain ⟨pc, ps, _⟩ := post_in hL Cl_nil (by simp) ht
  by_cases e : post t [] = L
  · simp [e, hc'.2 e]
  · have hcf : c = false := by rw [← Bool.not_eq_true, hc']; exact e
    have : ¬ nds (post t []) = nds L := fun h => e (nds_inj pc hL h)
    simp [this, hcf]

open Classical in
theorem v34 (nl nl' n2 n2' : Bool) (ord o2 : List Row) (ns m2 : List Nd) (root r2 : Int) (hn : nl = true → ord = []) (hb : Bd (ns.length + 2)) (hb' : Bd ord.length) (hb2 : Bd m2.length) (hb2' : Bd o2.length) :
    isoCall (call dp) 34 [eB nl nl' ord ns root, eB n2 n2' o2 m2 r2] = some (.b (decide (VB ord ns root ∧ root = r2 ∧ ord = o2 ∧ ns = m2))) := by
  obtain ⟨c, hc⟩ : ∃ c, c = decide (VB ord ns root ∧ root = r2 ∧ ord = o2 ∧ ns = m2) := ⟨_, rfl⟩
  rw [← hc]
  have e33 := v33 nl nl' ord ns root hn hb hb'
  simp only [eB] at e33
  apply i34 _ _ _ (by simp [noRefL]) rfl
  simp [s34, e33, v74 _ _ _ _ hb2', v73 _ _ _ _ hb2]
  by_cases h1 : VB ord ns root <;> by_cases h2 : root = r2 <;> by_cases h3 : ord = o2 <;> by_cases h4 : ns = m2 <;> simp_all

end Go.Proofs.YtjlmeikcfdanmaaGreatDoor.DE.V

namespace Go.Proofs.YtjlmeikcfdanmaaGreatDoor.DE
open Go

/-! (*lineage/bdd.maker).node -/
def s80 (cf : CallF) (a0 a1 a2 a3 : D) (S : Store) (Post : PT) : Prop :=
  OX (binD .eql .num a2 a3) fun x1 =>
  WB x1
  (Post a2 S)
  (OX (bldV [.i .i64 0, .i .i64 0, .i .i64 0] [(0, 1, false, a1), (1, 1, false, a2), (2, 1, false, a3)]) fun x2 =>
  al [.i .i64 0, .i .i64 0, .i .i64 0] S fun x3 S4 =>
  OX (stD S4 3 true x3 (.agg x2)) fun S6 =>
  OX (nilckD a0) fun x7 =>
  OX (faD 1 x7) fun x8 =>
  OX (ldD S6 1 false x8) fun x9 =>
  OX (binD .eql .map x9 .nilm) fun x10 =>
  jn (fun (y12 y13 y14 : D) (S15 : Store) =>
  OX (nilckD y12) fun x16 =>
  OX (faD 1 x16) fun x17 =>
  OX (ldD S15 1 false x17) fun x18 =>
  OX (ldD S15 3 true y13) fun x19 =>
  OX (lkD' (.agg [.i, .i, .i]) true (.i .i64 0) S15 x18 x19) fun x20 =>
  OX (extD x20 0) fun x21 =>
  OX (extD x20 1) fun x22 =>
  OX (unD .not x22) fun x23 =>
  jn (fun (y25 y26 y27 y28 : D) (S29 : Store) =>
  Post y27 S29) fun k24 =>
  WB x23
  (OX (nilckD y12) fun x30 =>
  OX (faD 0 x30) fun x31 =>
  OX (ldD S15 1 false x31) fun x32 =>
  OX (lenD false x32) fun x33 =>
  OX (binD .add .num x33 (.i .i64 2)) fun x34 =>
  OX (nilckD y12) fun x35 =>
  OX (faD 1 x35) fun x36 =>
  OX (ldD S15 1 false x36) fun x37 =>
  OX (ldD S15 3 true y13) fun x38 =>
  OX (nilckD y12) fun x39 =>
  OX (faD 0 x39) fun x40 =>
  OX (ldD S15 1 false x40) fun x41 =>
  OX (ldD S15 3 true y13) fun x42 =>
  OX (cellsV 3 true [x42]) fun x43 =>
  OX (appD 3 false x41 (.sl 3 false x43 .ro) S15) fun p45 =>
  OX (ldD p45.2 1 false x36) fun x46 => deq x46 x37 = true ∧
  (OX (ldD p45.2 3 true y13) fun x47 => deq x47 x38 = true ∧
  (OX (nilckD y12) fun x48 =>
  OX (faD 0 x48) fun x49 =>
  OX (stD p45.2 1 false x49 p45.1) fun S51 =>
  OX (ldD S51 3 true y13) fun x52 => deq x52 x38 = true ∧
  (OX (mentV (.agg [.i, .i, .i]) (.i .i64 0) S51 x37 x38) fun p54 =>
  OX (extD p54.1 1) fun x55 =>
  OX (estV p54.2 x37 x55 x34) fun S57 =>
  k24 D.top D.top x34 D.top S57))))
  (k24 y12 y13 x21 x23 S15)) fun k11 =>
  WB x10
  (mm S6 fun x58 S59 =>
  OX (nilckD a0) fun x60 =>
  OX (faD 1 x60) fun x61 =>
  OX (stD S59 1 false x61 x58) fun S63 =>
  k11 a0 x3 D.top S63)
  (k11 a0 x3 x10 S6))
theorem e80 (cf : CallF) (a0 a1 a2 a3 : D) (S : Store) (Post : PT) : wp cf c80 (frame0 d80 [a0, a1, a2, a3]) S (FinK d80.res Post) = s80 cf a0 a1 a2 a3 S Post := wpS_of (by kernel_rfl)
theorem f80 (a0 a1 a2 a3 : D) (S : Store) (Post : PT) (h : s80 (call dp) a0 a1 a2 a3 S Post) : ∃ r S', call dp 80 [a0, a1, a2, a3] S = some (r, S') ∧ Post r S' := call_s (f := d80) rfl ⟨rfl, by decide⟩ (by rw [← e80] at h; exact h)

/-! lineage/bdd.children -/
def s95 (cf : CallF) (a0 a1 a2 : D) (S : Store) (Post : PT) : Prop :=
  bxx 3 true a0 S fun x1 S2 =>
  OX (ldD S2 3 true x1) fun x3 =>
  OX (isoCall cf 77 [x3, a1]) fun x4 =>
  OX (binD .neq .num x4 a2) fun x5 =>
  WB x5
  (Post (.tup [a1, a1]) S2)
  (OX (faD 1 x1) fun x6 =>
  OX (ldD S2 1 false x6) fun x7 =>
  OX (binD .sub .num a1 (.i .i64 2)) fun x8 =>
  OX (iaD 3 x7 x8) fun x9 =>
  OX (ldD S2 3 true x9) fun x10 =>
  al [.i .i64 0, .i .i64 0, .i .i64 0] S2 fun x11 S12 =>
  OX (stD S12 3 true x11 x10) fun S14 =>
  OX (faD 1 x11) fun x15 =>
  OX (ldD S14 1 false x15) fun x16 =>
  OX (faD 2 x11) fun x17 =>
  OX (ldD S14 1 false x17) fun x18 =>
  Post (.tup [x16, x18]) S14)
theorem e95 (cf : CallF) (a0 a1 a2 : D) (S : Store) (Post : PT) : wp cf c95 (frame0 d95 [a0, a1, a2]) S (FinK d95.res Post) = s95 cf a0 a1 a2 S Post := wpS_of (by kernel_rfl)
theorem i95 (a0 a1 a2 : D) (r : D) (ha : noRefL (stripL [a0, a1, a2]) = true) (hr : noRef r = true) (h : s95 (call dp) (strip a0) (strip a1) (strip a2) [] fun d _ => stripT d = r) : isoCall (call dp) 95 [a0, a1, a2] = some r := iso_s (f := d95) rfl ⟨rfl, by decide⟩ ha hr (by rw [← e95] at h; exact h)
/-! lineage/bdd.combined$1 -/
def s94 (cf : CallF) (a0 a1 a2 a3 a4 a5 a6 a7 : D) (S : Store) (Post : PT) : Prop :=
  OX (ldD S 1 false a2) fun x1 =>
  OX (binD .eql .num a0 x1) fun x2 =>
  OX (gsel x2 false (some a1)) fun x3 =>
  OX (gsel x2 false (ldD S 1 false a2)) fun x4 =>
  OX (gsel x2 false (binD .eql .num x3 x4)) fun x5 =>
  OX (pickD x2 (.b true) x5) fun x6 =>
  WB x6
  (OX (ldD S 1 false a2) fun x7 =>
  Post x7 S)
  (OX (binD .lss .num a0 (.i .i64 2)) fun x8 =>
  OX (gsel x8 true (some a1)) fun x9 =>
  OX (gsel x8 true (binD .lss .num x9 (.i .i64 2))) fun x10 =>
  OX (pickD x8 x10 (.b false)) fun x11 =>
  WB x11
  (OX (ldD S 1 false a2) fun x12 =>
  OX (binD .sub .num (.i .i64 1) x12) fun x13 =>
  Post x13 S)
  (OX (ldD S 1 false a3) fun x14 =>
  OX (bldV [.i .i64 0, .i .i64 0] [(0, 1, false, a0), (1, 1, false, a1)]) fun x15 =>
  OX (lkD' (.agg [.i, .i]) true (.i .i64 0) S x14 (.agg x15)) fun x16 =>
  OX (extD x16 0) fun x17 =>
  OX (extD x16 1) fun x18 =>
  WB x18
  (Post x17 S)
  (OX (ldD S 3 true a4) fun x19 =>
  OX (isoCall cf 77 [x19, a0]) fun x20 =>
  OX (ldD S 3 true a5) fun x21 =>
  OX (isoCall cf 77 [x21, a1]) fun x22 =>
  OX (mnD x20 x22) fun x23 =>
  OX (ldD S 3 true a4) fun x24 =>
  OX (isoCall cf 95 [x24, a0, x23]) fun x25 =>
  OX (extD x25 0) fun x26 =>
  OX (extD x25 1) fun x27 =>
  OX (ldD S 3 true a5) fun x28 =>
  OX (isoCall cf 95 [x28, a1, x23]) fun x29 =>
  OX (extD x29 0) fun x30 =>
  OX (extD x29 1) fun x31 =>
  OX (ldD S 1 false a6) fun x32 =>
  OX (ldD S 1 false a6) fun x33 =>
  OX (fnD x32) fun q35 => OX (cf q35.1 ([x26, x30] ++ q35.2) S) fun p36 =>
  OX (ldD p36.2 1 false a6) fun x37 => deq x37 x33 = true ∧
  (OX (fnD x33) fun q39 => OX (cf q39.1 ([x27, x31] ++ q39.2) p36.2) fun p40 =>
  OX (ldD p40.2 1 false a3) fun x41 =>
  OX (bldV [.i .i64 0, .i .i64 0] [(0, 1, false, a0), (1, 1, false, a1)]) fun x42 =>
  OX (cf 80 [a7, x23, p36.1, p40.1] p40.2) fun p44 =>
  OX (ldD p44.2 1 false a3) fun x45 => deq x45 x41 = true ∧
  (OX (muD' (.agg [.i, .i]) p44.2 x41 (.agg x42) p44.1) fun S47 =>
  OX (ldD S47 1 false a3) fun x48 =>
  OX (bldV [.i .i64 0, .i .i64 0] [(0, 1, false, a0), (1, 1, false, a1)]) fun x49 =>
  OX (lkD' (.agg [.i, .i]) false (.i .i64 0) S47 x48 (.agg x49)) fun x50 =>
  Post x50 S47)))))
theorem e94 (cf : CallF) (a0 a1 a2 a3 a4 a5 a6 a7 : D) (S : Store) (Post : PT) : wp cf c94 (frame0 d94 [a0, a1, a2, a3, a4, a5, a6, a7]) S (FinK d94.res Post) = s94 cf a0 a1 a2 a3 a4 a5 a6 a7 S Post := wpS_of (by kernel_rfl)
theorem f94 (a0 a1 a2 a3 a4 a5 a6 a7 : D) (S : Store) (Post : PT) (h : s94 (call dp) a0 a1 a2 a3 a4 a5 a6 a7 S Post) : ∃ r S', call dp 94 [a0, a1, a2, a3, a4, a5, a6, a7] S = some (r, S') ∧ Post r S' := call_s (f := d94) rfl ⟨rfl, by decide⟩ (by rw [← e94] at h; exact h)

/-! lineage/bdd.combined -/
def s54 (cf : CallF) (a0 a1 a2 : D) (S : Store) (Post : PT) : Prop :=
  bxx 3 true a0 S fun x1 S2 =>
  bxx 3 true a1 S2 fun x3 S4 =>
  bxx 1 false a2 S4 fun x5 S6 =>
  al [.sl 2 true [] .ro, .sl 3 true [] .ro, .i .i64 0] S6 fun x7 S8 =>
  OX (ldD S8 3 true x1) fun x9 =>
  OX (isoCall cf 33 [x9]) fun x10 =>
  OX (unD .not x10) fun x11 =>
  OX (gsel x11 false (ldD S8 3 true x3)) fun x12 =>
  OX (gsel x11 false (isoCall cf 33 [x12])) fun x13 =>
  OX (gsel x11 false (unD .not x13)) fun x14 =>
  OX (pickD x11 (.b true) x14) fun x15 =>
  OX (gsel x15 false (faD 0 x1)) fun x16 =>
  OX (gsel x15 false (ldD S8 1 false x16)) fun x17 =>
  OX (gsel x15 false (faD 0 x3)) fun x18 =>
  OX (gsel x15 false (ldD S8 1 false x18)) fun x19 =>
  OX (gsel x15 false (isoCall cf 74 [x17, x19])) fun x20 =>
  OX (gsel x15 false (unD .not x20)) fun x21 =>
  OX (pickD x15 (.b true) x21) fun x22 =>
  WB x22
  (OX (bldV [.sl 2 true [] .ro, .sl 3 true [] .ro, .i .i64 0] []) fun x23 =>
  OX (stD S8 3 true x7 (.agg x23)) fun S25 =>
  OX (ldc S25 3 true x7) fun x26 => Post (.tup [x26, (.i .i64 1)]) S25)
  (al [.sl 3 true [] .ro, .nilm] S8 fun x27 S28 =>
  mm S28 fun x29 S30 =>
  al [.nilm] S30 fun x31 S32 =>
  OX (stD S32 1 false x31 x29) fun S34 =>
  al [.top] S34 fun x35 S36 =>
  OX (stD S36 1 false x35 (.fn 94 [x5, x31, x1, x3, x35, x27])) fun S38 =>
  OX (ldD S38 1 false x35) fun x39 =>
  OX (faD 2 x1) fun x40 =>
  OX (ldD S38 1 false x40) fun x41 =>
  OX (faD 2 x3) fun x42 =>
  OX (ldD S38 1 false x42) fun x43 =>
  OX (fnD x39) fun q45 => OX (cf q45.1 ([x41, x43] ++ q45.2) S38) fun p46 =>
  OX (faD 0 x1) fun x47 =>
  OX (ldD p46.2 1 false x47) fun x48 =>
  OX (faD 0 x27) fun x49 =>
  OX (ldD p46.2 1 false x49) fun x50 =>
  OX (isoCall cf 72 [x48, x50, p46.1]) fun x51 =>
  al [.sl 2 true [] .ro, .sl 3 true [] .ro, .i .i64 0] p46.2 fun x52 S53 =>
  OX (stD S53 3 true x52 x51) fun S55 =>
  OX (faD 1 x52) fun x56 =>
  OX (ldD S55 1 false x56) fun x57 =>
  OX (lenD false x57) fun x58 =>
  OX (binD .gtr .num x58 (.i .i64 4096)) fun x59 =>
  WB x59
  (OX (bldV [.sl 2 true [] .ro, .sl 3 true [] .ro, .i .i64 0] []) fun x60 =>
  OX (stD S55 3 true x7 (.agg x60)) fun S62 =>
  OX (ldc S62 3 true x7) fun x63 => Post (.tup [x63, (.i .i64 6)]) S62)
  (OX (ldD S55 3 true x52) fun x64 =>
  OX (stD S55 3 true x7 x64) fun S66 =>
  OX (ldc S66 3 true x7) fun x67 => Post (.tup [x67, (.i .i64 0)]) S66))
theorem e54 (cf : CallF) (a0 a1 a2 : D) (S : Store) (Post : PT) : wp cf c54 (frame0 d54 [a0, a1, a2]) S (FinK d54.res Post) = s54 cf a0 a1 a2 S Post := wpS_of (by kernel_rfl)
theorem i54 (a0 a1 a2 : D) (r : D) (ha : noRefL (stripL [a0, a1, a2]) = true) (hr : noRef r = true) (h : s54 (call dp) (strip a0) (strip a1) (strip a2) [] fun d _ => stripT d = r) : isoCall (call dp) 54 [a0, a1, a2] = some r := iso_s (f := d54) rfl ⟨rfl, by decide⟩ ha hr (by rw [← e54] at h; exact h)
/-! lineage/bdd.And -/
def s21 (cf : CallF) (a0 a1 : D) (S : Store) (Post : PT) : Prop :=
  bxx 3 true a0 S fun x1 S2 =>
  bxx 3 true a1 S2 fun x3 S4 =>
  al [.sl 2 true [] .ro, .sl 3 true [] .ro, .i .i64 0] S4 fun x5 S6 =>
  OX (ldD S6 3 true x1) fun x7 =>
  OX (ldD S6 3 true x3) fun x8 =>
  OX (isoCall cf 54 [x7, x8, (.i .i64 0)]) fun x9 =>
  OX (extD x9 0) fun x10 =>
  OX (extD x9 1) fun x11 =>
  OX (stD S6 3 true x5 x10) fun S13 =>
  OX (ldc S13 3 true x5) fun x14 => Post (.tup [x14, x11]) S13
theorem e21 (cf : CallF) (a0 a1 : D) (S : Store) (Post : PT) : wp cf c21 (frame0 d21 [a0, a1]) S (FinK d21.res Post) = s21 cf a0 a1 S Post := wpS_of (by kernel_rfl)
theorem i21 (a0 a1 : D) (r : D) (ha : noRefL (stripL [a0, a1]) = true) (hr : noRef r = true) (h : s21 (call dp) (strip a0) (strip a1) [] fun d _ => stripT d = r) : isoCall (call dp) 21 [a0, a1] = some r := iso_s (f := d21) rfl ⟨rfl, by decide⟩ ha hr (by rw [← e21] at h; exact h)
/-! lineage/bdd.Or -/
def s22 (cf : CallF) (a0 a1 : D) (S : Store) (Post : PT) : Prop :=
  bxx 3 true a0 S fun x1 S2 =>
  bxx 3 true a1 S2 fun x3 S4 =>
  al [.sl 2 true [] .ro, .sl 3 true [] .ro, .i .i64 0] S4 fun x5 S6 =>
  OX (ldD S6 3 true x1) fun x7 =>
  OX (ldD S6 3 true x3) fun x8 =>
  OX (isoCall cf 54 [x7, x8, (.i .i64 1)]) fun x9 =>
  OX (extD x9 0) fun x10 =>
  OX (extD x9 1) fun x11 =>
  OX (stD S6 3 true x5 x10) fun S13 =>
  OX (ldc S13 3 true x5) fun x14 => Post (.tup [x14, x11]) S13
theorem e22 (cf : CallF) (a0 a1 : D) (S : Store) (Post : PT) : wp cf c22 (frame0 d22 [a0, a1]) S (FinK d22.res Post) = s22 cf a0 a1 S Post := wpS_of (by kernel_rfl)
theorem i22 (a0 a1 : D) (r : D) (ha : noRefL (stripL [a0, a1]) = true) (hr : noRef r = true) (h : s22 (call dp) (strip a0) (strip a1) [] fun d _ => stripT d = r) : isoCall (call dp) 22 [a0, a1] = some r := iso_s (f := d22) rfl ⟨rfl, by decide⟩ ha hr (by rw [← e22] at h; exact h)
/-! slices.Index[[]lineage/api.RowID,lineage/api.RowID] -/
def s50_r0 (cf : CallF) (a0 a3 a4 a7 a8 a9 : D) (S : Store) (Q : QT) : Prop :=
  Q .ret (mkf 19 [(0, .top), (3, .top), (4, (.i .i64 (-1))), (7, .top), (8, .top), (9, .top)]) S
theorem e50_r0 (cf : CallF) (a0 a3 a4 a7 a8 a9 : D) (S : Store) (Q : QT) : wp cf c50_r0 (mkf 19 [(0, a0), (3, a3), (4, a4), (7, a7), (8, a8), (9, a9)]) S Q = s50_r0 cf a0 a3 a4 a7 a8 a9 S Q := wpS_of (by kernel_rfl)
def s50_0 (cf : CallF) (a0 a3 a4 a7 a8 a9 : D) (S : Store) (Q : QT) : Prop :=
  OX (binD .lss .num a8 a7) fun x1 =>
  WB x1
  (OX (ldD S 2 true a3) fun x2 =>
  OX (iaD 2 a0 a8) fun x3 =>
  OX (ldD S 2 true x3) fun x4 =>
  OX (binD .eql (.agg [.i, .i]) x2 x4) fun x5 =>
  WB x5
  (Q .ret (mkf 19 [(0, .top), (3, .top), (4, a8), (7, .top), (8, .top), (9, .top)]) S)
  (OX (binD .add .num a8 (.i .i64 1)) fun x6 =>
  Q .normal (mkf 19 [(0, a0), (3, a3), (4, a4), (7, a7), (8, x6), (9, .top)]) S))
  (Q (.exit 0) (mkf 19 [(0, a0), (3, a3), (4, a4), (7, a7), (8, a8), (9, x1)]) S)
theorem e50_0 (cf : CallF) (a0 a3 a4 a7 a8 a9 : D) (S : Store) (Q : QT) : wp cf c50_0 (fkill (mkf 19 [(0, a0), (3, a3), (4, a4), (7, a7), (8, a8), (9, a9)]) []) S Q = s50_0 cf a0 a3 a4 a7 a8 a9 S Q := wpS_of (by kernel_rfl)
def s50 (cf : CallF) (a0 a1 : D) (S : Store) (Post : PT) : Prop :=
  bxx 2 true a1 S fun x7 S8 =>
  OX (lenD false a0) fun x9 =>
  W cf (.loop [] c50_0) (mkf 19 [(0, a0), (3, x7), (4, .top), (7, x9), (8, (.i .i64 0)), (9, .top)]) S8 (Qblk 0 (QS cf c50_r0 (FinK [.t 4] Post)))
theorem e50 (cf : CallF) (a0 a1 : D) (S : Store) (Post : PT) : wp cf c50 (frame0 d50 [a0, a1]) S (FinK d50.res Post) = s50 cf a0 a1 S Post := wpS_of (by kernel_rfl)
theorem i50 (a0 a1 : D) (r : D) (ha : noRefL (stripL [a0, a1]) = true) (hr : noRef r = true) (h : s50 (call dp) (strip a0) (strip a1) [] fun d _ => stripT d = r) : isoCall (call dp) 50 [a0, a1] = some r := iso_s (f := d50) rfl ⟨rfl, by decide⟩ ha hr (by rw [← e50] at h; exact h)
/-! lineage/bdd.Variable -/
def s14 (cf : CallF) (a0 a1 : D) (S : Store) (Post : PT) : Prop :=
  bxx 2 true a1 S fun x1 S2 =>
  al [.sl 2 true [] .ro, .sl 3 true [] .ro, .i .i64 0] S2 fun x3 S4 =>
  OX (isoCall cf 48 [a0]) fun x5 =>
  OX (unD .not x5) fun x6 =>
  WB x6
  (OX (bldV [.sl 2 true [] .ro, .sl 3 true [] .ro, .i .i64 0] []) fun x7 =>
  OX (stD S4 3 true x3 (.agg x7)) fun S9 =>
  OX (ldc S9 3 true x3) fun x10 => Post (.tup [x10, (.i .i64 1)]) S9)
  (OX (ldD S4 2 true x1) fun x11 =>
  OX (isoCall cf 50 [a0, x11]) fun x12 =>
  OX (binD .lss .num x12 (.i .i64 0)) fun x13 =>
  WB x13
  (OX (bldV [.sl 2 true [] .ro, .sl 3 true [] .ro, .i .i64 0] []) fun x14 =>
  OX (stD S4 3 true x3 (.agg x14)) fun S16 =>
  OX (ldc S16 3 true x3) fun x17 => Post (.tup [x17, (.i .i64 4)]) S16)
  (OX (isoCall cf 49 [a0]) fun x18 =>
  OX (bldV [.i .i64 0, .i .i64 0, .i .i64 0] [(0, 1, false, x12), (1, 1, false, (.i .i64 0)), (2, 1, false, (.i .i64 1))]) fun x19 =>
  OX (cellsV 3 true [(.agg x19)]) fun x20 =>
  OX (bldV [.sl 2 true [] .ro, .sl 3 true [] .ro, .i .i64 0] [(0, 1, false, x18), (1, 1, false, (.sl 3 false x20 .ro)), (2, 1, false, (.i .i64 2))]) fun x21 =>
  OX (stD S4 3 true x3 (.agg x21)) fun S23 =>
  OX (ldc S23 3 true x3) fun x24 => Post (.tup [x24, (.i .i64 0)]) S23))
theorem e14 (cf : CallF) (a0 a1 : D) (S : Store) (Post : PT) : wp cf c14 (frame0 d14 [a0, a1]) S (FinK d14.res Post) = s14 cf a0 a1 S Post := wpS_of (by kernel_rfl)
theorem i14 (a0 a1 : D) (r : D) (ha : noRefL (stripL [a0, a1]) = true) (hr : noRef r = true) (h : s14 (call dp) (strip a0) (strip a1) [] fun d _ => stripT d = r) : isoCall (call dp) 14 [a0, a1] = some r := iso_s (f := d14) rfl ⟨rfl, by decide⟩ ha hr (by rw [← e14] at h; exact h)
/-! lineage/bdd.Terminal -/
def s13 (cf : CallF) (a0 a1 : D) (S : Store) (Post : PT) : Prop :=
  al [.sl 2 true [] .ro, .sl 3 true [] .ro, .i .i64 0] S fun x1 S2 =>
  OX (isoCall cf 48 [a0]) fun x3 =>
  OX (unD .not x3) fun x4 =>
  WB x4
  (OX (bldV [.sl 2 true [] .ro, .sl 3 true [] .ro, .i .i64 0] []) fun x5 =>
  OX (stD S2 3 true x1 (.agg x5)) fun S7 =>
  OX (ldc S7 3 true x1) fun x8 => Post x8 S7)
  (OX (isoCall cf 49 [a0]) fun x9 =>
  OX (bldV [.sl 2 true [] .ro, .sl 3 true [] .ro, .i .i64 0] [(0, 1, false, x9)]) fun x10 =>
  al [.sl 2 true [] .ro, .sl 3 true [] .ro, .i .i64 0] S2 fun x11 S12 =>
  OX (stD S12 3 true x11 (.agg x10)) fun S14 =>
  jn (fun (y16 y17 y18 : D) (S19 : Store) =>
  OX (ldD S19 3 true y17) fun x20 =>
  OX (stD S19 3 true y16 x20) fun S22 =>
  OX (ldc S22 3 true y16) fun x23 => Post x23 S22) fun k15 =>
  WB a1
  (OX (faD 2 x11) fun x24 =>
  OX (stD S14 1 false x24 (.i .i64 1)) fun S26 =>
  k15 x1 x11 D.top S26)
  (k15 x1 x11 a1 S14))
theorem e13 (cf : CallF) (a0 a1 : D) (S : Store) (Post : PT) : wp cf c13 (frame0 d13 [a0, a1]) S (FinK d13.res Post) = s13 cf a0 a1 S Post := wpS_of (by kernel_rfl)
theorem i13 (a0 a1 : D) (r : D) (ha : noRefL (stripL [a0, a1]) = true) (hr : noRef r = true) (h : s13 (call dp) (strip a0) (strip a1) [] fun d _ => stripT d = r) : isoCall (call dp) 13 [a0, a1] = some r := iso_s (f := d13) rfl ⟨rfl, by decide⟩ ha hr (by rw [← e13] at h; exact h)
/-! lineage/lineagelaw11.same -/
end Go.Proofs.YtjlmeikcfdanmaaGreatDoor.DE
