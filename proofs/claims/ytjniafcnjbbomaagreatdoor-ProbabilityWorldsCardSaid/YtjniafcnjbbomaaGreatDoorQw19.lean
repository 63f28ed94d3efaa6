/-
  SEVERAL TEXTS IN ONE (joined by tools/asm3.py of this repository): Gw.
-/
import Derived.Test.YtjniafcnjbbomaaGreatDoorQw7
import Derived.Test.YtjniafcnjbbomaaGreatDoorQw18
set_option linter.unusedVariables false
set_option linter.unusedSimpArgs false
namespace Go.Proofs.YtjniafcnjbbomaaGreatDoor.DE.V
open Go NL

theorem ofD_same (l : List Ch) (r : Row) (hf : ∀ c, c ∈ l → c.num.length ≤ 4 ∧ c.den.length ≤ 4) : isoCall (call dp) 16 [ofD l r, ofD l r] = some (.b true) := by
  unfold ofD
  cases h : l.find? (fun c => decide (c.1 = r)) with
  | none =>
    have := v16 false false false false (ofN 1) (ofN 1) (ofN 1) (ofN 1) (by rw [len_one]; unfold Bd; decide) (by rw [len_one]; unfold Bd; decide)
    simp only [and_self, decide_true] at this
    exact this
  | some c =>
    have hm := List.mem_of_find?_eq_some h
    have := v16 c.2.1.1 c.2.2.1 c.2.1.1 c.2.2.1 c.num c.den c.num c.den (by have := (hf c hm).1; unfold Bd; omega) (by have := (hf c hm).2; unfold Bd; omega)
    simp only [and_self, decide_true] at this
    exact this

theorem RT_lt {w : List Row} {l : List Ch} (hok : OkL l) (hv : VL l) : ∀ q, wf w l = some q → Lt128 q.1 ∧ Lt128 q.2 := fun q h => by
  have := wf_vq hok hv.all h
  exact ⟨this.f1, this.f2⟩

theorem same_worlds (nl nw : Bool) (l : List Ch) (w : List Row) (hok : OkL l) (hb : Bd l.length) (hw : Bd w.length) : ∃ d c d' c', isoCall (call dp) 12 [eRows nw w, eChs nl l] = some (.tup [d, c]) ∧ isoCall (call dp) 13 [eRows nw w, eChs nl l] = some (.tup [d', c']) ∧ IsQ d ∧ IsQ d' ∧ isoCall (call dp) 11 [d, c, d', c'] = some (.b true) := by
  by_cases hv : VL l
  · obtain ⟨r, e1, h1⟩ := v12_ok nl nw l w hok hv hb hw
    obtain ⟨r', e2, h2⟩ := v13_ok nl nw l w hok hv hb hw
    obtain ⟨d, k, rfl, s1⟩ := h1.split
    obtain ⟨d', k', rfl, s2⟩ := h2.split
    exact ⟨d, .i .i64 k, d', .i .i64 k', e1, e2, s1.isQ, s2.isQ, v11 _ 6 _ _ _ _ h1 h2 (RT_lt hok hv)⟩
  · exact ⟨zeroQ, .i .i64 1, zeroQ, .i .i64 1, v12_bad nl nw l w hok hv hb, v13_bad nl nw l w hok hv hb, isQ_zero, isQ_zero, v11 none 1 _ _ _ _ rfl rfl (fun q h => by cases h)⟩

/-- What is known of chances that are handed over. -/
structure OkH (c : Ch) : Prop where
  l1 : Lim c.num
  l2 : Lim c.den
  f1 : NF c.2.1.1 c.num
  f2 : NF c.2.2.1 c.den
theorem OkL_of {l : List Ch} (h : ∀ c, c ∈ l → OkH c) (hf : FewL l) : OkL l ∧ Bd l.length := by
  refine ⟨fun c hc => ⟨(h c hc).l1, (h c hc).l2, (h c hc).f1, (h c hc).f2, ?_, ?_⟩, ?_⟩
  · have := (hf.1 c hc).1; unfold Bd; omega
  · have := (hf.1 c hc).2; unfold Bd; omega
  · have := hf.2; unfold Bd; omega

theorem law4 (nl nw : Bool) (l : List Ch) (r : Row) (w : List Row) (hokh : ∀ c, c ∈ l → OkH c) (hb0 : l.length ≤ maxLen) : isoCall (call dp) 4 [eChs nl l, .agg (eRow r), eRows nw w] = some (.b true) := by
  apply i4 _ _ _ _ (by simp [noRefL]) rfl
  have u7 := v7 nl l hb0
  have hlen : lenD false (eRows nw w) = some (.i .i64 w.length) := lenD_rows nw w
  have hgt : binD .gtr .num (.i .i64 (w.length : Int)) (.i .i64 12) = some (.b (decide (12 < w.length))) := gtr_nat _ 12
  have u8 : isoCall (call dp) 8 [] = some (.b true) := v8
  simp only [s4, strip_chs, strip_row, strip_eRows, bxx_eq, cellsK_row, OX_some, u7, un_not, List.length_nil]
  by_cases hf : FewL l
  · by_cases h12 : 12 < w.length
    · simp only [hf, h12, decide_true, Bool.not_true, gsel_ff, hlen, hgt, OX_some, pick_f, WB_true, u8]
      rfl
    · have hf4 := hf.1
      obtain ⟨hok, hb⟩ := OkL_of hokh hf
      have hw : Bd w.length := by unfold Bd; omega
      obtain ⟨d, c, d', c', e1, e2, i1, i2, e3⟩ := same_worlds nl nw l w hok hb hw
      have q1 : QAt [.box [.sl 1 true [] .ro, .sl 1 true [] .ro], .box (eRow r)] 1 zeroQ := QAt.nil [Ent.box (eRow r)]
      obtain ⟨S16, e16, q16, l16, k16⟩ := q1.st i1
      have q2 := QAt.nil S16
      obtain ⟨S23, e23, q23, l23, k23⟩ := q2.st i2
      have hS16 : S16.length = 2 := by rw [l16]; rfl
      have q16' : QAt S23 1 d := by
        have := (q16.grow ((Grow.refl S16).cons (.box [.sl 1 true [] .ro, .sl 1 true [] .ro])))
        exact this.ne k23 (by rw [hS16]; decide)
      have hrow : ldD S23 2 true (.bx 0 0) = some (.agg (eRow r)) := by
        rw [ldD_bx, k23 0 (by rw [hS16]; decide), sget_push (by rw [k16 0 (by decide)]; rfl : sget S16 0 = some (.box (eRow r)))]
        rfl
      have u14 := v14 nl l hok hb
      have u15 := v15 nl l hok hb
      have u17 := v17 nl l r hok hb (fun c hc => ⟨by have := (hf4 c hc).1; omega, by have := (hf4 c hc).2; omega⟩)
      have u18 := v18 nl l r hb
      have u16 := ofD_same l r hf4
      have hbe : ∀ x : Bool, binD .eql .bool (.b x) (.b x) = some (.b true) := fun x => by rw [bin_beql]; simp
      simp only [hf, h12, decide_true, decide_false, Bool.not_true, gsel_ff, hlen, hgt, OX_some, pick_f, WB_false, e1, e2, ext_eq, List.getElem?_cons_zero, List.getElem?_cons_succ, al_eq, List.length_cons, List.length_nil, Nat.zero_add, e16, e23, u14, u15, hbe, gsel_tt, hrow, u17, u18, u16, pick_t, q16'.ld, q23.ld, e3, u8]
      rfl
  · simp only [hf, decide_false, Bool.not_false, gsel_tf, OX_some, pick_t, WB_true, u8]
    rfl

end Go.Proofs.YtjniafcnjbbomaaGreatDoor.DE.V
