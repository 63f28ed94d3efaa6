/-
  WHAT THE FUNCTIONS ANSWER: Index, Terminal, Variable, Not.
-/
import Derived.Test.YtjlmeikcfdanmaaGreatDoorVh
import Derived.Test.YtjlmeikcfdanmaaGreatDoorSc
namespace Go.Proofs.YtjlmeikcfdanmaaGreatDoor.DE.V
open Go BT

/-- The index of a row, or -1. -/
def ixOf (r : Row) : List Row → Int
  | [] => -1
  | x :: l => if x = r then 0 else if ixOf r l < 0 then -1 else ixOf r l + 1

theorem ixOf_none {r : Row} : ∀ {l : List Row}, r ∉ l → ixOf r l = -1
  | [], _ => rfl
  | x :: l, h => by
    simp only [List.mem_cons, not_or] at h
    simp [ixOf, Ne.symm h.1, ixOf_none h.2]

theorem ixOf_found {r : Row} : ∀ {l : List Row} {k : Nat}, l[k]? = some r → r ∉ l.take k → ixOf r l = k
  | [], _, h, _ => by simp at h
  | x :: l, 0, h, _ => by simp at h; simp [ixOf, h]
  | x :: l, k + 1, h, hn => by
    simp only [List.take_succ_cons, List.mem_cons, not_or] at hn
    have := ixOf_found (l := l) (k := k) (by simpa using h) hn.2
    simp [ixOf, Ne.symm hn.1, this]
    omega

theorem ixOf_lt (r : Row) : ∀ l : List Row, ixOf r l < l.length ∧ -1 ≤ ixOf r l
  | [] => by simp [ixOf]
  | x :: l => by
    have := ixOf_lt r l
    simp only [ixOf, List.length_cons]
    split
    · omega
    · split <;> omega

theorem v50 (nl : Bool) (l : List Row) (r : Row) (hb : Bd l.length) : isoCall (call dp) 50 [eRows nl l, .agg (eRow r)] = some (.i .i64 (ixOf r l)) := by
  apply i50 _ _ _ (by simp [noRefL]) rfl
  simp [s50]
  let J : Nat → List D → Store → Prop := fun q fr S => ∃ k a4 a9, k + q = l.length ∧ r ∉ l.take k ∧ S = [Ent.box (eRow r)] ∧ fr = mkf 19 [(0, eRows nl l), (3, .bx 0 0), (4, a4), (7, .i .i64 l.length), (8, .i .i64 k), (9, a9)]
  refine W_loop J ?_ l.length _ _ ⟨0, _, _, by simp, by simp, rfl, rfl⟩
  rintro q fr S ⟨k, a4, a9, hk, hn, rfl, rfl⟩
  rw [← wp_W, e50_0]
  simp [s50_0]
  by_cases h : k < l.length
  · obtain ⟨x, hx⟩ : ∃ x, l[k]? = some x := ⟨_, List.getElem?_eq_getElem (by omega)⟩
    simp [h, iaD_rows _ hx]
    by_cases e : r = x
    · subst e
      simp [ixOf_found hx hn]
    · simp [e, wrapS (hb.lt (Nat.le_of_lt h))]
      refine ⟨q - 1, by omega, k + 1, _, _, by omega, ?_, rfl, rfl⟩
      rw [take_snoc hx]
      simp [hn, e]
  · have : l.take k = l := List.take_of_length_le (by omega)
    rw [this] at hn
    simp [h, e50_r0, s50_r0, ixOf_none hn]

/-- The empty diagram. -/
def zB : D := eB true true [] [] 0
theorem zB_eq : D.agg [.sl 2 true [] .ro, .sl 3 true [] .ro, .i .i64 0] = zB := rfl

open Classical in
theorem v13 (nl : Bool) (ord : List Row) (c : Bool) (hn : nl = true → ord = []) (hb : Bd ord.length) : isoCall (call dp) 13 [eRows nl ord, .b c] = some (if OrdOk ord ∧ ord.length ≤ 4096 then eB nl true ord [] (if c then 1 else 0) else zB) := by
  apply i13 _ _ _ (by simp [noRefL]) (by split <;> simp [zB])
  simp only [s13]
  by_cases h : OrdOk ord ∧ ord.length ≤ 4096
  · have e48 := v48 nl ord hb
    simp only [h, and_self, decide_true] at e48
    simp [e48, v49 nl ord hn (by simp [maxLenD]; omega), bldV, jn_eq, h]
    cases c <;> simp <;> rfl
  · have e48 := v48 nl ord hb
    simp only [h, decide_false] at e48
    simp [e48, h]
    rfl

open Classical in
theorem v14 (nl : Bool) (ord : List Row) (r : Row) (hn : nl = true → ord = []) (hb : Bd ord.length) : isoCall (call dp) 14 [eRows nl ord, .agg (eRow r)] = some (if OrdOk ord ∧ ord.length ≤ 4096 then
    (if ixOf r ord < 0 then .tup [zB, .i .i64 4] else .tup [eB nl false ord [(ixOf r ord, 0, 1)] 2, .i .i64 0]) else .tup [zB, .i .i64 1]) := by
  apply i14 _ _ _ (by simp [noRefL]) (by split <;> (try split) <;> simp [zB, noRef, noRefL])
  have e48 := v48 nl ord hb
  have e50 := v50 nl ord r hb
  by_cases h : OrdOk ord ∧ ord.length ≤ 4096
  · simp only [h, and_self, decide_true] at e48
    by_cases h2 : ixOf r ord < 0
    · simp [s14, e48, e50, h, h2]
      rfl
    · simp [s14, e48, e50, h, h2, v49 nl ord hn (by simp [maxLenD]; omega), bldV]
      rfl
  · simp only [h, decide_false] at e48
    simp [s14, e48, h]
    rfl

theorem v55 (r : Int) (h : 0 ≤ r) : isoCall (call dp) 55 [.i .i64 r] = some (.i .i64 (swp r)) := by
  apply i55 _ _ rfl rfl
  simp [s55, swp]
  split
  · rw [wrap64 ⟨by omega, by omega⟩]
  · intro h2; omega

end Go.Proofs.YtjlmeikcfdanmaaGreatDoor.DE.V
