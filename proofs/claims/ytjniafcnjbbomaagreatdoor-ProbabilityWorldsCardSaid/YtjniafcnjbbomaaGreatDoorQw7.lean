/-
  SEVERAL TEXTS IN ONE (joined by tools/asm3.py of this repository): Gs, Gt, Gu, Gv, De3, De4, De5, De6, De7, De8, De9, De10, De11, De12, De13.
-/
import Derived.Test.YtjniafcnjbbomaaGreatDoorQw1
import Derived.Test.YtjniafcnjbbomaaGreatDoorQw6
import Derived.Laws.World
import Derived.Laws.Sem
import Derived.Laws.Cells
import Derived.Calls
import GoSem.Extern.BytealgCompare
import Derived.Laws.StructEq
import Derived.Laws.Entries
import Derived.Laws.OwnMore
import Derived.Great.BuildSlice
import Derived.Laws.Externs
set_option linter.unusedVariables false
set_option linter.unusedSimpArgs false
namespace Go.Proofs.YtjniafcnjbbomaaGreatDoor.DE.V
open Go NL

/-! ### Rows of a world -/
theorem ia_rows {nl : Bool} {l : List Row} {i : Nat} {r : Row} (h : l[i]? = some r) : iaD 2 (eRows nl l) (.i .i64 i) = some (.el (eRow r) 0) := iaD_rows .i64 h
theorem mem_snoc {l : List Row} {i : Nat} {s r : Row} (h : l[i]? = some s) (hn : ¬ r ∈ l.take i) (he : ¬ s = r) : ¬ r ∈ l.take (i + 1) := by
  rw [take_snoc h]
  intro hd
  rcases List.mem_append.1 hd with h' | h'
  · exact hn h'
  · exact he (List.mem_singleton.1 h').symm

def J100 (nl : Bool) (l : List Row) (r : Row) : Nat → List D → Store → Prop := fun q fr S => ∃ i a4 a9, q = l.length - i ∧ i ≤ l.length ∧ ¬ r ∈ l.take i ∧ S = [.box (eRow r)] ∧
  fr = mkf 19 [(0, eRows nl l), (3, .bx 0 0), (4, a4), (7, .i .i64 l.length), (8, .i .i64 i), (9, a9)]
theorem v100 (nl : Bool) (l : List Row) (r : Row) (hb : Bd l.length) : ∃ k, isoCall (call dp) 100 [eRows nl l, .agg (eRow r)] = some (.i .i64 k) ∧ (0 ≤ k ↔ r ∈ l) := by
  obtain ⟨d, e, k, rfl, h⟩ := j100 (eRows nl l) (.agg (eRow r)) (fun d => ∃ k, d = .i .i64 k ∧ (0 ≤ k ↔ r ∈ l)) (by simp [noRefL]) (by rintro _ ⟨k, rfl, _⟩; rfl) (by
    simp only [s100, strip_row, strip_eRows, bxx_eq, cellsK_row, lenD_rows, OX_some, List.length_nil]
    generalize hR : QS (call dp) c100_r0 _ = R
    refine W_loop (J100 nl l r) ?_ l.length _ _ ⟨0, .top, .top, by omega, by omega, by simp, rfl, rfl⟩
    rintro q fr S ⟨i, a4, a9, rfl, hi, hv, rfl, rfl⟩
    rw [← wp_W, e100_0]
    have h2 : ldD [Ent.box (eRow r)] 2 true (.bx 0 0) = some (.agg (eRow r)) := rfl
    by_cases hlt : i < l.length
    · obtain ⟨c, hc⟩ : ∃ c, l[i]? = some c := ⟨l[i], List.getElem?_eq_getElem hlt⟩
      simp only [s100_0, lss_nat, hlt, decide_true, OX_tt, WB_true, h2, ia_rows hc, ldD_el_row, OX_some, bin_row]
      by_cases he : r = c
      · subst he
        simp only [decide_true, OX_tt, WB_true, Qseq_ret, Qblk_ret]
        rw [← hR, QS_ret, FinK_ret1]
        exact ⟨i, rfl, ⟨fun _ => List.mem_of_getElem? hc, fun _ => by omega⟩⟩
      · simp only [he, decide_false, OX_ff, WB_false, inc_nat (show Bd i by unfold Bd at *; omega), OX_some, Qseq_normal]
        exact ⟨l.length - (i + 1), by omega, i + 1, a4, .top, rfl, by omega, mem_snoc hc hv (fun h => he h.symm), rfl, rfl⟩
    · have : i = l.length := by omega
      subst this
      rw [List.take_length] at hv
      simp only [s100_0, lss_nat, hlt, decide_false, OX_ff, WB_false, Qseq_exit, Qblk_same]
      rw [← hR]
      simp only [QS_normal, e100_r0, s100_r0]
      rw [FinK_ret1]
      exact ⟨-1, rfl, ⟨fun h => absurd h (by decide), fun h => absurd h hv⟩⟩)
  exact ⟨k, e, h⟩

theorem v48 (nl : Bool) (l : List Row) (r : Row) (hb : Bd l.length) : isoCall (call dp) 48 [eRows nl l, .agg (eRow r)] = some (.b (decide (r ∈ l))) := by
  apply i48 _ _ _ (by simp [noRefL]) rfl
  obtain ⟨k, e, h⟩ := v100 nl l r hb
  have h2 : ldD [Ent.box (eRow r)] 2 true (.bx 0 0) = some (.agg (eRow r)) := rfl
  have hg : binD .geq .num (.i .i64 k) (.i .i64 0) = some (.b (decide (r ∈ l))) := by
    rw [bin_geq]; congr 2; exact decide_eq_decide.2 h
  simp only [s48, strip_row, strip_eRows, bxx_eq, cellsK_row, OX_some, List.length_nil, h2, e, hg, stripT_b]

def J49 (nl : Bool) (l : List Row) (r : Row) : Nat → List D → Store → Prop := fun q fr S => ∃ i a4 a9, q = l.length - i ∧ i ≤ l.length ∧ ¬ r ∈ l.take i ∧ S = [.box (eRow r)] ∧
  fr = mkf 18 [(0, eRows nl l), (3, .bx 0 0), (4, a4), (5, .i .i64 i), (9, a9)]
theorem v49 (nl : Bool) (l : List Row) (r : Row) (hb : Bd l.length) : isoCall (call dp) 49 [eRows nl l, .agg (eRow r)] = some (.b (decide (r ∈ l))) := by
  apply i49 _ _ _ (by simp [noRefL]) rfl
  simp only [s49, strip_row, strip_eRows, bxx_eq, cellsK_row, OX_some, List.length_nil]
  generalize hR : QS (call dp) c49_r0 _ = R
  refine W_loop (J49 nl l r) ?_ l.length _ _ ⟨0, .top, .top, by omega, by omega, by simp, rfl, rfl⟩
  rintro q fr S ⟨i, a4, a9, rfl, hi, hv, rfl, rfl⟩
  rw [← wp_W, e49_0]
  have h2 : ldD [Ent.box (eRow r)] 2 true (.bx 0 0) = some (.agg (eRow r)) := rfl
  by_cases hlt : i < l.length
  · obtain ⟨c, hc⟩ : ∃ c, l[i]? = some c := ⟨l[i], List.getElem?_eq_getElem hlt⟩
    simp only [s49_0, lenD_rows, OX_some, lss_nat, hlt, decide_true, WB_true, h2, ia_rows hc, ldD_el_row, bin_row]
    by_cases he : c = r
    · subst he
      have hm := List.mem_of_getElem? hc
      simp only [decide_true, WB_true, Qseq_ret, Qblk_ret]
      rw [← hR, QS_ret, FinK_ret1, decide_eq_true hm]
      rfl
    · simp only [he, decide_false, WB_false, inc_nat (show Bd i by unfold Bd at *; omega), OX_some, Qseq_normal]
      exact ⟨l.length - (i + 1), by omega, i + 1, a4, .top, rfl, by omega, mem_snoc hc hv he, rfl, rfl⟩
  · have : i = l.length := by omega
    subst this
    rw [List.take_length] at hv
    simp only [s49_0, lenD_rows, OX_some, lss_nat, hlt, decide_false, WB_false, Qseq_exit, Qblk_same]
    rw [← hR]
    simp only [QS_normal, e49_r0, s49_r0]
    rw [FinK_ret1, decide_eq_false hv]
    rfl

/-! ### The first error is kept -/
def IsQ (d : D) : Prop := ∃ n1 n2 a b, d = eQ n1 n2 a b
theorem Rq.isQ {q : Fq} {d : D} (h : Rq q d) : IsQ d := by obtain ⟨n1, n2, rfl, _⟩ := h; exact ⟨_, _, _, _, rfl⟩
def zeroQ : D := eQ true true [] []
theorem isQ_zero : IsQ zeroQ := ⟨_, _, _, _, rfl⟩
theorem IsQ.cells {d : D} (h : IsQ d) : ∃ x y, d = .agg [x, y] ∧ isCell x = true ∧ isCell y = true ∧ strip d = d := by obtain ⟨n1, n2, a, b, rfl⟩ := h; exact ⟨_, _, rfl, rfl, rfl, rfl⟩
theorem IsQ.noRef {d : D} (h : IsQ d) : noRef d = true := by obtain ⟨n1, n2, a, b, rfl⟩ := h; simp

/-- A cell of two values holds the fraction. -/
def QAt (S : Store) (id : Nat) (d : D) : Prop := ∃ x y, d = .agg [x, y] ∧ sget S id = some (.box [x, y])
theorem QAt.ld {S : Store} {id : Nat} {d : D} (h : QAt S id d) : ldD S 2 true (.bx id 0) = some d := by
  obtain ⟨x, y, rfl, h⟩ := h
  rw [ldD_bx, h]; rfl
theorem QAt.ldc {S : Store} {id : Nat} {d : D} (h : QAt S id d) : ldc S 2 true (.bx id 0) = some d := h.ld
theorem QAt.grow {S S' : Store} {id : Nat} {d : D} (h : QAt S id d) (g : Grow S S') : QAt S' id d := by
  obtain ⟨x, y, rfl, h⟩ := h
  exact ⟨x, y, rfl, g.get h⟩
theorem QAt.st {S : Store} {id : Nat} {d d' : D} (h : QAt S id d) (h' : IsQ d') : ∃ S', stD S 2 true (.bx id 0) d' = some S' ∧ QAt S' id d' ∧ S'.length = S.length ∧ ∀ j, j ≠ id → sget S' j = sget S j := by
  obtain ⟨x, y, rfl, h⟩ := h
  obtain ⟨n1, n2, a, b, rfl⟩ := h'
  exact ⟨_, st2q S id x y n1 n2 a b h, ⟨_, _, rfl, sget_sset _ (sget_lt h)⟩, sset_len _ _ _, fun j hj => sget_sset_ne _ hj⟩
theorem QAt.ne {S S' : Store} {id j : Nat} {d : D} (h : QAt S j d) (k : ∀ i, i ≠ id → sget S' i = sget S i) (hj : j ≠ id) : QAt S' j d := by
  obtain ⟨x, y, rfl, h⟩ := h
  exact ⟨x, y, rfl, by rw [k j hj]; exact h⟩
theorem QAt.top (S : Store) {d : D} (h : IsQ d) : ∃ x y, cellsK 2 true d = some [x, y] ∧ QAt (.box [x, y] :: S) S.length d := by
  obtain ⟨n1, n2, a, b, rfl⟩ := h
  exact ⟨_, _, rfl, _, _, rfl, sget_top _ _⟩
theorem QAt.nil (S : Store) : QAt (.box [.sl 1 true [] .ro, .sl 1 true [] .ro] :: S) S.length zeroQ := ⟨_, _, rfl, sget_top _ _⟩

def EAt (S : Store) (id : Nat) (e : Int) : Prop := sget S id = some (.box [.i .i64 e])
theorem EAt.ld {S : Store} {id : Nat} {e : Int} (h : EAt S id e) : ldD S 1 false (.bx id 0) = some (.i .i64 e) := by rw [ldD_bx, h]; rfl
theorem nilck_bx (id : Nat) : nilckD (.bx id 0) = some (.bx id 0) := rfl
theorem zero_agg : D.agg [eLims true [] .ro, eLims true [] .ro] = zeroQ := rfl

/-- Everything but the cell of the error is as it was. -/
structure Keeps (S S' : Store) (id : Nat) : Prop where
  len : S.length ≤ S'.length
  get : ∀ j, j < S.length → j ≠ id → sget S' j = sget S j
theorem Grow.keeps {S S' : Store} (h : Grow S S') (id : Nat) : Keeps S S' id := by
  refine ⟨?_, ?_⟩
  · obtain ⟨T, rfl⟩ := h; simp
  · intro j hj _
    obtain ⟨e, he⟩ : ∃ e, sget S j = some e := by
      clear h
      induction S with
      | nil => simp at hj
      | cons x S ih =>
        by_cases hc : j = S.length
        · exact ⟨x, by simp [hc]⟩
        · simp only [sget_cons, hc, if_false]
          exact ih (by simp at hj; omega)
    rw [he]; exact h.get he
theorem Keeps.trans {S S' S'' : Store} {id : Nat} (h : Keeps S S' id) (k : Keeps S' S'' id) : Keeps S S'' id :=
  ⟨Nat.le_trans h.len k.len, fun j hj hne => by rw [k.get j (Nat.lt_of_lt_of_le hj h.len) hne, h.get j hj hne]⟩
theorem Keeps.q {S S' : Store} {id j : Nat} {d : D} (h : Keeps S S' id) (k : QAt S j d) (hj : j ≠ id) : QAt S' j d := by
  obtain ⟨x, y, rfl, k⟩ := k
  exact ⟨x, y, rfl, by rw [h.get j (sget_lt k) hj]; exact k⟩

theorem v94 (ide : Nat) (e c : Int) (d : D) (S : Store) (hE : EAt S ide e) (hd : IsQ d) :
    ∃ S', call dp 94 [.bx ide 0, d, .i .i64 c] S = some (if e = 0 then d else zeroQ, S') ∧ EAt S' ide (if e = 0 then c else e) ∧ Keeps S S' ide := by
  obtain ⟨r, S', e1, rfl, hE', hk⟩ := f94 (.bx ide 0) d (.i .i64 c) S (fun r S' => r = (if e = 0 then d else zeroQ) ∧ EAt S' ide (if e = 0 then c else e) ∧ Keeps S S' ide) (by
    obtain ⟨x, y, hc, hq⟩ := QAt.top S hd
    have hq2 := QAt.nil (.box [x, y] :: S)
    have g1 : Grow S (.box [.sl 1 true [] .ro, .sl 1 true [] .ro] :: .box [x, y] :: S) := ((Grow.refl S).cons _).cons _
    have hE1 : EAt (.box [.sl 1 true [] .ro, .sl 1 true [] .ro] :: .box [x, y] :: S) ide e := g1.get hE
    have hq1 := hq.grow ((Grow.refl (.box [x, y] :: S)).cons (.box [.sl 1 true [] .ro, .sl 1 true [] .ro]))
    have hide := sget_lt hE
    generalize hS2 : (Ent.box [.sl 1 true [] .ro, .sl 1 true [] .ro] :: .box [x, y] :: S) = S2 at *
    have hl2 : S2.length = S.length + 2 := by rw [← hS2]; simp
    have hfa : faD 0 (.bx ide 0) = some (.bx ide 0) := rfl
    have hne : binD .neq .num (.i .i64 e) (.i .i64 0) = some (.b (!decide (e = 0))) := by rw [bin_neq]
    simp only [s94, bxx_eq, hc, OX_some, al_eq, nilck_bx, hfa, hS2, hE1.ld, hne]
    by_cases h0 : e = 0
    · simp only [h0, decide_true, Bool.not_true, WB_false, OX_some, if_true]
      have hst : stD S2 1 false (.bx ide 0) (.i .i64 c) = some (sset S2 ide (.box [.i .i64 c])) := by
        rw [stD_bx, hE1]; rfl
      simp only [hst, OX_some]
      have hq1' : QAt (sset S2 ide (.box [.i .i64 c])) S.length d := hq1.ne (fun j hj => sget_sset_ne _ hj) (by omega)
      have hq2' : QAt (sset S2 ide (.box [.i .i64 c])) (List.length (Ent.box [x, y] :: S)) zeroQ := hq2.ne (fun j hj => sget_sset_ne _ hj) (by simp; omega)
      obtain ⟨S3, e3, q3, l3, k3⟩ := hq2'.st hd
      simp only [hq1'.ld, OX_some, e3, q3.ldc]
      refine ⟨trivial, ?_, ?_⟩
      · show sget S3 ide = _
        rw [k3 ide (by simp; omega)]
        exact sget_sset _ (by omega)
      · refine ⟨by rw [l3, sset_len]; omega, fun j hj hj' => ?_⟩
        rw [k3 j (by simp; omega), sget_sset_ne _ hj']
        exact (g1.keeps ide).get j hj hj'
    · simp only [h0, decide_false, Bool.not_false, WB_true, bld0, OX_some, zero_agg, if_false]
      obtain ⟨S3, e3, q3, l3, k3⟩ := hq2.st isQ_zero
      simp only [e3, OX_some, q3.ldc]
      refine ⟨trivial, ?_, ?_⟩
      · show sget S3 ide = _
        rw [k3 ide (by simp; omega)]
        exact hE1
      · refine ⟨by rw [l3]; omega, fun j hj hj' => ?_⟩
        rw [k3 j (by simp; omega)]
        exact (g1.keeps ide).get j hj hj')
  exact ⟨S', e1, hE', hk⟩

end Go.Proofs.YtjniafcnjbbomaaGreatDoor.DE.V

namespace Go.Proofs.YtjniafcnjbbomaaGreatDoor.DE.V
open Go NL

def St (o : Option Fq) (e : Int) (d : D) : Prop := match o with | some q => e = 0 ∧ Rq q d | none => e = 6 ∧ IsQ d
theorem St.isQ {o : Option Fq} {e : Int} {d : D} (h : St o e d) : IsQ d := by
  cases o with
  | none => exact h.2
  | some q => exact h.2.isQ
theorem RT.split {o : Option Fq} {r : D} (h : RT o 6 r) : ∃ dq e, r = .tup [dq, .i .i64 e] ∧ St o e dq := by
  cases o with
  | none => exact ⟨_, _, h, rfl, isQ_zero⟩
  | some q => obtain ⟨dq, h, k⟩ := h; exact ⟨dq, 0, h, rfl, k⟩

/-- What stands in a fresh cell. -/
theorem box2 (S : Store) {d : D} (h : IsQ d) (K : D → Store → Prop) (hk : ∀ x y, QAt (.box [x, y] :: S) S.length d → K (.bx S.length 0) (.box [x, y] :: S)) : bxx 2 true d S K := by
  obtain ⟨x, y, hc, hq⟩ := QAt.top S h
  rw [bxx_eq, hc, OX_some]
  exact hk x y hq

theorem fa0 (id : Nat) : faD 0 (.bx id 0) = some (.bx id 0) := rfl
theorem neq0 (e : Int) : binD .neq .num (.i .i64 e) (.i .i64 0) = some (.b (!decide (e = 0))) := by rw [bin_neq]

section
variable (g : Nat) (f : Fq → Fq → Option Fq) (Hg : ∀ a b da db, Rq a da → Rq b db → VQ a → VQ b → ∃ r, isoCall (call dp) g [da, db] = some r ∧ RT (f a b) 6 r)
include Hg

theorem v93 (ide : Nat) (a b : Fq) (da db : D) (S : Store) (hE : EAt S ide 0) (ha : Rq a da) (hb : Rq b db) (va : VQ a) (vb : VQ b) :
    ∃ d e S', call dp 93 [.bx ide 0, .fn g [], da, db] S = some (d, S') ∧ St (f a b) e d ∧ EAt S' ide e ∧ Keeps S S' ide := by
  obtain ⟨r, er, hr⟩ := Hg a b da db ha hb va vb
  obtain ⟨dq, e, rfl, hst⟩ := hr.split
  obtain ⟨d, S', e1, h⟩ := f93 (.bx ide 0) (.fn g []) da db S (fun d S' => ∃ e, St (f a b) e d ∧ EAt S' ide e ∧ Keeps S S' ide) (by
    unfold s93
    refine box2 S ha.isQ _ fun x y q1 => ?_
    refine box2 _ hb.isQ _ fun u v q2 => ?_
    have q3 : QAt (.box [.sl 1 true [] .ro, .sl 1 true [] .ro] :: .box [u, v] :: .box [x, y] :: S) (S.length + 2) zeroQ := QAt.nil (.box [u, v] :: .box [x, y] :: S)
    have g1 : Grow S (.box [.sl 1 true [] .ro, .sl 1 true [] .ro] :: .box [u, v] :: .box [x, y] :: S) := (((Grow.refl S).cons _).cons _).cons _
    have q1' : QAt (.box [.sl 1 true [] .ro, .sl 1 true [] .ro] :: .box [u, v] :: .box [x, y] :: S) S.length da := q1.grow (((Grow.refl _).cons (.box [u, v])).cons (.box [.sl 1 true [] .ro, .sl 1 true [] .ro]))
    have q2' : QAt (.box [.sl 1 true [] .ro, .sl 1 true [] .ro] :: .box [u, v] :: .box [x, y] :: S) (S.length + 1) db := q2.grow ((Grow.refl _).cons (.box [.sl 1 true [] .ro, .sl 1 true [] .ro]))
    have hE1 : EAt (.box [.sl 1 true [] .ro, .sl 1 true [] .ro] :: .box [u, v] :: .box [x, y] :: S) ide 0 := g1.get hE
    have hide := sget_lt hE
    rw [al_eq]
    have l1 : List.length (Ent.box [x, y] :: S) = S.length + 1 := rfl
    have l2 : List.length (Ent.box [u, v] :: .box [x, y] :: S) = S.length + 2 := rfl
    rw [l2, l1]
    generalize (Ent.box [.sl 1 true [] .ro, .sl 1 true [] .ro] :: .box [u, v] :: .box [x, y] :: S) = S2 at *
    obtain ⟨S3, e3, hE3, k3⟩ := v94 ide 0 e dq S2 hE1 hst.isQ
    rw [if_pos rfl] at e3 hE3
    have q4 := k3.q q3 (by omega)
    obtain ⟨S4, e4, q5, l4, k4⟩ := q4.st hst.isQ
    simp only [nilck_bx, fa0, hE1.ld, OX_some, neq0, decide_true, Bool.not_true, WB_false, q1'.ld, q2'.ld, fnD_fn, List.cons_append, List.nil_append, er, ext_eq, List.getElem?_cons_zero, List.getElem?_cons_succ, e3, e4, q5.ldc]
    refine ⟨e, hst, ?_, ?_⟩
    · show sget S4 ide = _
      rw [k4 ide (by omega)]; exact hE3
    · have h1 := (g1.keeps ide).trans k3
      exact ⟨by rw [l4]; exact h1.len, fun j hj hne => by rw [k4 j (by omega)]; exact h1.get j hj hne⟩)
  exact ⟨d, h.choose, S', e1, h.choose_spec⟩

omit Hg in
theorem v93e (ide : Nat) (e : Int) (da db : D) (S : Store) (hE : EAt S ide e) (h0 : e ≠ 0) (ha : IsQ da) (hb : IsQ db) :
    ∃ S', call dp 93 [.bx ide 0, .fn g [], da, db] S = some (zeroQ, S') ∧ EAt S' ide e ∧ Keeps S S' ide := by
  obtain ⟨d, S', e1, rfl, h⟩ := f93 (.bx ide 0) (.fn g []) da db S (fun d S' => d = zeroQ ∧ EAt S' ide e ∧ Keeps S S' ide) (by
    unfold s93
    refine box2 S ha _ fun x y q1 => ?_
    refine box2 _ hb _ fun u v q2 => ?_
    have q3 : QAt (.box [.sl 1 true [] .ro, .sl 1 true [] .ro] :: .box [u, v] :: .box [x, y] :: S) (S.length + 2) zeroQ := QAt.nil (.box [u, v] :: .box [x, y] :: S)
    have g1 : Grow S (.box [.sl 1 true [] .ro, .sl 1 true [] .ro] :: .box [u, v] :: .box [x, y] :: S) := (((Grow.refl S).cons _).cons _).cons _
    have hE1 : EAt (.box [.sl 1 true [] .ro, .sl 1 true [] .ro] :: .box [u, v] :: .box [x, y] :: S) ide e := g1.get hE
    have hide := sget_lt hE
    rw [al_eq]
    have l2 : List.length (Ent.box [u, v] :: .box [x, y] :: S) = S.length + 2 := rfl
    rw [l2]
    generalize (Ent.box [.sl 1 true [] .ro, .sl 1 true [] .ro] :: .box [u, v] :: .box [x, y] :: S) = S2 at *
    obtain ⟨S4, e4, q5, l4, k4⟩ := q3.st isQ_zero
    simp only [nilck_bx, fa0, hE1.ld, OX_some, neq0, h0, decide_false, Bool.not_false, WB_true, bld0, zero_agg, e4, q5.ldc]
    refine ⟨trivial, ?_, ?_⟩
    · show sget S4 ide = _
      rw [k4 ide (by omega)]; exact hE1
    · have h1 := g1.keeps ide
      exact ⟨by rw [l4]; exact h1.len, fun j hj hne => by rw [k4 j (by omega)]; exact h1.get j hj hne⟩)
  exact ⟨S', e1, h⟩
end

/-! ### mul, add: the same text around 'binary' -/
theorem around (m g ide : Nat) (da db d : D) (S : Store) (R : D → Store → Prop) (ha : IsQ da) (hb : IsQ db) (hide : ide < S.length)
    (hb' : ∀ S1, Grow S S1 → ∃ d S', call dp m [.bx ide 0, .fn g [], da, db] S1 = some (d, S') ∧ IsQ d ∧ Keeps S1 S' ide ∧ (∀ S'', sget S'' ide = sget S' ide → Keeps S S'' ide → R d S'')) :
    (bxx 2 true da S fun x1 S2 =>
      bxx 2 true db S2 fun x3 S4 =>
      al [.sl 1 true [] .ro, .sl 1 true [] .ro] S4 fun x5 S6 =>
      OX (ldD S6 2 true x1) fun x7 =>
      OX (ldD S6 2 true x3) fun x8 =>
      OX (call dp m [.bx ide 0, (.fn g []), x7, x8] S6) fun p10 =>
      OX (stD p10.2 2 true x5 p10.1) fun S12 =>
      OX (ldc S12 2 true x5) fun x13 => R x13 S12) := by
  refine box2 S ha _ fun x y q1 => ?_
  refine box2 _ hb _ fun u v q2 => ?_
  have q3 : QAt (.box [.sl 1 true [] .ro, .sl 1 true [] .ro] :: .box [u, v] :: .box [x, y] :: S) (S.length + 2) zeroQ := QAt.nil (.box [u, v] :: .box [x, y] :: S)
  have g1 : Grow S (.box [.sl 1 true [] .ro, .sl 1 true [] .ro] :: .box [u, v] :: .box [x, y] :: S) := (((Grow.refl S).cons _).cons _).cons _
  have q1' : QAt (.box [.sl 1 true [] .ro, .sl 1 true [] .ro] :: .box [u, v] :: .box [x, y] :: S) S.length da := q1.grow (((Grow.refl _).cons (.box [u, v])).cons (.box [.sl 1 true [] .ro, .sl 1 true [] .ro]))
  have q2' : QAt (.box [.sl 1 true [] .ro, .sl 1 true [] .ro] :: .box [u, v] :: .box [x, y] :: S) (S.length + 1) db := q2.grow ((Grow.refl _).cons (.box [.sl 1 true [] .ro, .sl 1 true [] .ro]))
  rw [al_eq]
  have l1 : List.length (Ent.box [x, y] :: S) = S.length + 1 := rfl
  have l2 : List.length (Ent.box [u, v] :: .box [x, y] :: S) = S.length + 2 := rfl
  rw [l2, l1]
  generalize (Ent.box [.sl 1 true [] .ro, .sl 1 true [] .ro] :: .box [u, v] :: .box [x, y] :: S) = S2 at *
  obtain ⟨d, S3, e3, hq, k3, hR⟩ := hb' S2 g1
  have q4 := k3.q q3 (by omega)
  obtain ⟨S4, e4, q5, l4, k4⟩ := q4.st hq
  simp only [q1'.ld, q2'.ld, OX_some, e3, e4, q5.ldc]
  have h1 := (g1.keeps ide).trans k3
  exact hR S4 (k4 ide (by omega)) ⟨by rw [l4]; exact h1.len, fun j hj hne => by rw [k4 j (by omega)]; exact h1.get j hj hne⟩

theorem v40 (ide : Nat) (a b : Fq) (da db : D) (S : Store) (hE : EAt S ide 0) (ha : Rq a da) (hb : Rq b db) (va : VQ a) (vb : VQ b) :
    ∃ d e S', call dp 40 [.bx ide 0, da, db] S = some (d, S') ∧ St (pmul a b) e d ∧ EAt S' ide e ∧ Keeps S S' ide := by
  obtain ⟨d, S', e1, e, h⟩ := f40 (.bx ide 0) da db S (fun d S' => ∃ e, St (pmul a b) e d ∧ EAt S' ide e ∧ Keeps S S' ide) (by
    unfold s40
    refine around 93 29 ide da db zeroQ S _ ha.isQ hb.isQ (sget_lt hE) ?_
    intro S1 hg
    obtain ⟨d, e, S', h1, h2, h3, h4⟩ := v93 29 pmul v29 ide a b da db S1 (hg.get hE) ha hb va vb
    exact ⟨d, S', h1, h2.isQ, h4, fun S'' hs hk => ⟨e, h2, by show sget S'' ide = _; rw [hs]; exact h3, hk⟩⟩)
  exact ⟨d, e, S', e1, h⟩
theorem v40e (ide : Nat) (e : Int) (da db : D) (S : Store) (hE : EAt S ide e) (h0 : e ≠ 0) (ha : IsQ da) (hb : IsQ db) :
    ∃ S', call dp 40 [.bx ide 0, da, db] S = some (zeroQ, S') ∧ EAt S' ide e ∧ Keeps S S' ide := by
  obtain ⟨d, S', e1, rfl, h⟩ := f40 (.bx ide 0) da db S (fun d S' => d = zeroQ ∧ EAt S' ide e ∧ Keeps S S' ide) (by
    unfold s40
    refine around 93 29 ide da db zeroQ S _ ha hb (sget_lt hE) ?_
    intro S1 hg
    obtain ⟨S', h1, h3, h4⟩ := v93e 29 ide e da db S1 (hg.get hE) h0 ha hb
    exact ⟨zeroQ, S', h1, isQ_zero, h4, fun S'' hs hk => ⟨rfl, by show sget S'' ide = _; rw [hs]; exact h3, hk⟩⟩)
  exact ⟨S', e1, h⟩
/-! ### complement, result -/
theorem v41 (ide : Nat) (e : Int) (a : Fq) (da : D) (S : Store) (hE : EAt S ide e) (ha : Rq a da) (va : VQ a) (hle : a.1 ≤ a.2) :
    ∃ d S', call dp 41 [.bx ide 0, da] S = some (d, S') ∧ (if e = 0 then Rq (pcompl a) d else d = zeroQ) ∧ EAt S' ide e ∧ Keeps S S' ide := by
  obtain ⟨r, er, dq, rfl, hq⟩ := v95 a da ha va hle
  obtain ⟨d, S', e1, h⟩ := f41 (.bx ide 0) da S (fun d S' => (if e = 0 then Rq (pcompl a) d else d = zeroQ) ∧ EAt S' ide e ∧ Keeps S S' ide) (by
    unfold s41
    refine box2 S ha.isQ _ fun x y q1 => ?_
    have q3 : QAt (.box [.sl 1 true [] .ro, .sl 1 true [] .ro] :: .box [x, y] :: S) (S.length + 1) zeroQ := QAt.nil (.box [x, y] :: S)
    have g1 : Grow S (.box [.sl 1 true [] .ro, .sl 1 true [] .ro] :: .box [x, y] :: S) := ((Grow.refl S).cons _).cons _
    have q1' : QAt (.box [.sl 1 true [] .ro, .sl 1 true [] .ro] :: .box [x, y] :: S) S.length da := q1.grow ((Grow.refl _).cons (.box [.sl 1 true [] .ro, .sl 1 true [] .ro]))
    have hE1 : EAt (.box [.sl 1 true [] .ro, .sl 1 true [] .ro] :: .box [x, y] :: S) ide e := g1.get hE
    have hide := sget_lt hE
    rw [al_eq]
    have l1 : List.length (Ent.box [x, y] :: S) = S.length + 1 := rfl
    rw [l1]
    generalize (Ent.box [.sl 1 true [] .ro, .sl 1 true [] .ro] :: .box [x, y] :: S) = S2 at *
    obtain ⟨S3, e3, hE3, k3⟩ := v94 ide e 0 dq S2 hE1 hq.isQ
    have hee : (if e = 0 then 0 else e) = e := by split <;> simp [*]
    rw [hee] at hE3
    have hIs : IsQ (if e = 0 then dq else zeroQ) := by split; exact hq.isQ; exact isQ_zero
    have q4 := k3.q q3 (by omega)
    obtain ⟨S4, e4, q5, l4, k4⟩ := q4.st hIs
    simp only [q1'.ld, OX_some, er, ext_eq, List.getElem?_cons_zero, List.getElem?_cons_succ, e3, e4, q5.ldc]
    refine ⟨?_, ?_, ?_⟩
    · split
      · exact hq
      · rfl
    · show sget S4 ide = _
      rw [k4 ide (by omega)]; exact hE3
    · have h1 := (g1.keeps ide).trans k3
      exact ⟨by rw [l4]; exact h1.len, fun j hj hne => by rw [k4 j (by omega)]; exact h1.get j hj hne⟩)
  exact ⟨d, S', e1, h⟩

theorem v43 (ide : Nat) (e : Int) (d : D) (S : Store) (hE : EAt S ide e) (hd : IsQ d) :
    ∃ S', call dp 43 [.bx ide 0, d] S = some (.tup [if e = 0 then d else zeroQ, .i .i64 e], S') ∧ Keeps S S' ide := by
  obtain ⟨r, S', e1, rfl, hk⟩ := f43 (.bx ide 0) d S (fun r S' => r = .tup [if e = 0 then d else zeroQ, .i .i64 e] ∧ Keeps S S' ide) (by
    unfold s43
    refine box2 S hd _ fun x y q1 => ?_
    have q3 : QAt (.box [.sl 1 true [] .ro, .sl 1 true [] .ro] :: .box [x, y] :: S) (S.length + 1) zeroQ := QAt.nil (.box [x, y] :: S)
    have g1 : Grow S (.box [.sl 1 true [] .ro, .sl 1 true [] .ro] :: .box [x, y] :: S) := ((Grow.refl S).cons _).cons _
    have q1' : QAt (.box [.sl 1 true [] .ro, .sl 1 true [] .ro] :: .box [x, y] :: S) S.length d := q1.grow ((Grow.refl _).cons (.box [.sl 1 true [] .ro, .sl 1 true [] .ro]))
    have hE1 : EAt (.box [.sl 1 true [] .ro, .sl 1 true [] .ro] :: .box [x, y] :: S) ide e := g1.get hE
    have hide := sget_lt hE
    rw [al_eq]
    have l1 : List.length (Ent.box [x, y] :: S) = S.length + 1 := rfl
    rw [l1]
    generalize (Ent.box [.sl 1 true [] .ro, .sl 1 true [] .ro] :: .box [x, y] :: S) = S2 at *
    by_cases h0 : e = 0
    · obtain ⟨S4, e4, q5, l4, k4⟩ := q3.st hd
      simp only [nilck_bx, fa0, hE1.ld, OX_some, neq0, h0, decide_true, Bool.not_true, WB_false, q1'.ld, e4, q5.ldc, if_true]
      refine ⟨trivial, ?_⟩
      have h1 := g1.keeps ide
      exact ⟨by rw [l4]; exact h1.len, fun j hj hne => by rw [k4 j (by omega)]; exact h1.get j hj hne⟩
    · obtain ⟨S4, e4, q5, l4, k4⟩ := q3.st isQ_zero
      have hE4 : EAt S4 ide e := by
        show sget S4 ide = _
        rw [k4 ide (by omega)]; exact hE1
      simp only [nilck_bx, fa0, hE1.ld, OX_some, neq0, h0, decide_false, Bool.not_false, WB_true, bld0, zero_agg, e4, q5.ldc, if_false, hE4.ld, deq_self, true_and]
      have h1 := g1.keeps ide
      exact ⟨by rw [l4]; exact h1.len, fun j hj hne => by rw [k4 j (by omega)]; exact h1.get j hj hne⟩)
  exact ⟨S', e1, hk⟩

end Go.Proofs.YtjniafcnjbbomaaGreatDoor.DE.V

namespace Go.Proofs.YtjniafcnjbbomaaGreatDoor.DE.V
open Go NL

/-- The fraction of a chance. -/
def qc (c : Ch) : Fq := (val c.num, val c.den)
theorem vc_q {c : Ch} (ok : OkC c) (h : VC c) : VQ (qc c) ∧ Rq (qc c) (eCq c) ∧ (qc c).1 ≤ (qc c).2 := by
  obtain ⟨h1, h2, h3⟩ := VQ_of ok.l1 ok.l2 h.1.2
  refine ⟨h1, ⟨c.2.1.1, c.2.2.1, ?_, ?_, ?_⟩, h.2.2⟩
  · show eQ _ _ c.num c.den = eQ _ _ (ofN (val c.num)) (ofN (val c.den))
    rw [← h2, ← h3]
  · show NF _ (ofN (val c.num))
    rw [← h2]; exact ok.f1
  · show NF _ (ofN (val c.den))
    rw [← h3]; exact ok.f2

/-- One chance of a world. -/
def wfac (w : List Row) (c : Ch) : Fq := if c.1 ∈ w then qc c else pcompl (qc c)
def wst (w : List Row) (o : Option Fq) (c : Ch) : Option Fq := o.bind fun a => pmul a (wfac w c)
def wf (w : List Row) (l : List Ch) : Option Fq := l.foldl (wst w) (some (1, 1))
theorem wf_snoc (w : List Row) (l : List Ch) (c : Ch) : wf w (l ++ [c]) = wst w (wf w l) c := by simp [wf]
theorem wfac_vq {w : List Row} {c : Ch} (ok : OkC c) (h : VC c) : VQ (wfac w c) := by
  obtain ⟨h1, h2, h3⟩ := vc_q ok h
  unfold wfac
  split
  · exact h1
  · exact VQ_compl h1 h3
theorem wf_vq {w : List Row} {l : List Ch} (hok : OkL l) (hv : ∀ c, c ∈ l → VC c) {q : Fq} (h : wf w l = some q) : VQ q := by
  have key : ∀ (l : List Ch) (o : Option Fq), OkL l → (∀ c, c ∈ l → VC c) → (∀ q, o = some q → VQ q) → ∀ q, l.foldl (wst w) o = some q → VQ q := by
    intro l
    induction l with
    | nil => intro o _ _ ho q hq; exact ho q hq
    | cons c l ih =>
      intro o hok hv ho q hq
      refine ih _ (fun c' h' => hok c' (by simp [h'])) (fun c' h' => hv c' (by simp [h'])) ?_ q hq
      intro q' hq'
      cases o with
      | none => cases hq'
      | some a => exact VQ_mul (ho a rfl) (wfac_vq (hok c (by simp)) (hv c (by simp))) hq'
  exact key l _ hok hv (fun q hq => by injection hq with hq; rw [← hq]; exact VQ_one) q h
theorem VL.all {l : List Ch} (h : VL l) : ∀ c, c ∈ l → VC c := by
  intro c hc
  obtain ⟨i, hi⟩ := List.mem_iff_getElem?.1 hc
  exact (h i c hi).1

/-- The product is put into its cell. -/
theorem mul_in (o : Option Fq) (b : Fq) (e : Int) (acc p : D) (S : Store) (idp : Nat) (hS : St o e acc) (ho : ∀ q, o = some q → VQ q) (vb : VQ b) (hp : e = 0 → Rq b p) (hp' : IsQ p) (hE : EAt S 1 e) (h0 : QAt S 0 zeroQ) (h2 : QAt S 2 acc) (hi : QAt S idp p) (K : D → Store → Prop)
    (hK : ∀ S' e' acc', St (o.bind fun a => pmul a b) e' acc' → EAt S' 1 e' → QAt S' 0 zeroQ → QAt S' 2 acc' → K .top S') :
    OX (ldD S 2 true (.bx 2 0)) fun x37 => OX (ldD S 2 true (.bx idp 0)) fun x38 => OX (call dp 40 [.bx 1 0, x37, x38] S) fun p40 => OX (stD p40.2 2 true (.bx 2 0) p40.1) fun S42 => K .top S42 := by
  have fin : ∀ d e' S', call dp 40 [.bx 1 0, acc, p] S = some (d, S') → St (o.bind fun a => pmul a b) e' d → EAt S' 1 e' → Keeps S S' 1 → OX (ldD S 2 true (.bx 2 0)) fun x37 => OX (ldD S 2 true (.bx idp 0)) fun x38 => OX (call dp 40 [.bx 1 0, x37, x38] S) fun p40 => OX (stD p40.2 2 true (.bx 2 0) p40.1) fun S42 => K .top S42 := by
    intro d e' S' h1 h3 h4 h5
    obtain ⟨S4, e4, q5, l4, k4⟩ := (h5.q h2 (by decide)).st h3.isQ
    simp only [h2.ld, hi.ld, OX_some, h1, e4]
    refine hK S4 e' d h3 ?_ ?_ q5
    · show sget S4 1 = _
      rw [k4 1 (by decide)]; exact h4
    · exact (h5.q h0 (by decide)).ne k4 (by decide)
  cases o with
  | some a =>
    obtain ⟨rfl, ha⟩ := hS
    obtain ⟨d, e', S', h1, h3, h4, h5⟩ := v40 1 a b acc p S hE ha (hp rfl) (ho a rfl) vb
    exact fin d e' S' h1 h3 h4 h5
  | none =>
    obtain ⟨rfl, ha⟩ := hS
    obtain ⟨S', h1, h4, h5⟩ := v40e 1 6 acc p S hE (by decide) ha hp'
    exact fin zeroQ 6 S' h1 ⟨rfl, isQ_zero⟩ h4 h5

def J12 (nl nw : Bool) (l : List Ch) (w : List Row) : Nat → List D → Store → Prop := fun n fr S => ∃ i e acc a5 a19, n = l.length - i ∧ i ≤ l.length ∧ St (wf w (l.take i)) e acc ∧ EAt S 1 e ∧ QAt S 0 zeroQ ∧ QAt S 2 acc ∧
  fr = mkf 39 [(0, eRows nw w), (4, .bx 0 0), (5, a5), (6, .bx 1 0), (7, .bx 2 0), (16, eChs nl l), (17, .i .i64 l.length), (18, .i .i64 i), (19, a19)]

theorem st_vq {w : List Row} {l : List Ch} (hok : OkL l) (hv : VL l) (i : Nat) : ∀ q, wf w (l.take i) = some q → VQ q :=
  fun _ h => wf_vq (fun c hc => hok c (List.mem_of_mem_take hc)) (fun c hc => hv.all c (List.mem_of_mem_take hc)) h

theorem v12_ok (nl nw : Bool) (l : List Ch) (w : List Row) (hok : OkL l) (hv : VL l) (hb : Bd l.length) (hw : Bd w.length) : ∃ r, isoCall (call dp) 12 [eRows nw w, eChs nl l] = some r ∧ RT (wf w l) 6 r := by
  apply j12 _ _ _ (by simp [noRefL]) (fun r h => h.noRef)
  have u14 := v14 nl l hok hb
  have hst : stD [Ent.box [.sl 1 true [] .ro, .sl 1 true [] .ro], .box [.i .i64 0], .box [.sl 1 true [] .ro, .sl 1 true [] .ro]] 2 true (.bx 2 0) (eQ false false (ofN 1) (ofN 1)) = some [.box [eLims false (ofN 1) .ro, eLims false (ofN 1) .ro], .box [.i .i64 0], .box [.sl 1 true [] .ro, .sl 1 true [] .ro]] := st2q _ 2 _ _ _ _ _ _ rfl
  simp only [s12, strip_eRows, strip_chs, al_eq, List.length_cons, List.length_nil, Nat.zero_add, Nat.reduceAdd, u14, hv, decide_true, OX_some, un_not, Bool.not_true, WB_false, v28, hst, len_chs]
  generalize hR : QS (call dp) c12_r0 _ = R
  refine W_loop (J12 nl nw l w) ?_ l.length _ _ ⟨0, 0, _, .top, .top, by omega, by omega, ⟨rfl, false, false, rfl, fun h => (by cases h), fun h => (by cases h)⟩, rfl, ⟨_, _, rfl, rfl⟩, ⟨_, _, rfl, rfl⟩, rfl⟩
  rintro n fr S ⟨i, e, acc, a5, a19, rfl, hi, hst, hE, q0, q2, rfl⟩
  rw [← wp_W, e12_0]
  by_cases hlt : i < l.length
  · obtain ⟨c, hc⟩ : ∃ c, l[i]? = some c := ⟨l[i], List.getElem?_eq_getElem hlt⟩
    have hm := List.mem_of_getElem? hc
    obtain ⟨vq, rq, hle⟩ := vc_q (hok c hm) (hv.all c hm)
    have g1 : Grow S (.box (eCh c) :: S) := (Grow.refl S).cons _
    obtain ⟨x, y, hcell, qp⟩ := QAt.top (.box (eCh c) :: S) rq.isQ
    have hst1 : stD (Ent.box [.sl 1 true [] .ro, .sl 1 true [] .ro] :: .box (eCh c) :: S) 2 true (.bx (List.length (Ent.box (eCh c) :: S)) 0) (eCq c) = some (.box [eLims c.2.1.1 c.2.1.2 .ro, eLims c.2.2.1 c.2.2.2 .ro] :: .box (eCh c) :: S) := by
      have := st2q (Ent.box [.sl 1 true [] .ro, .sl 1 true [] .ro] :: .box (eCh c) :: S) (List.length (Ent.box (eCh c) :: S)) _ _ c.2.1.1 c.2.2.1 c.2.1.2 c.2.2.2 (sget_top _ _)
      rw [sset_top] at this
      exact this
    have qp : QAt (.box [eLims c.2.1.1 c.2.1.2 .ro, eLims c.2.2.1 c.2.2.2 .ro] :: .box (eCh c) :: S) (S.length + 1) (eCq c) := ⟨_, _, rfl, sget_top _ (Ent.box (eCh c) :: S)⟩
    have hrow : ldD (Ent.box [eLims c.2.1.1 c.2.1.2 .ro, eLims c.2.2.1 c.2.2.2 .ro] :: .box (eCh c) :: S) 2 true (.bx S.length 0) = some (.agg (eRow c.1)) := by
      rw [ldD_bx, sget_push (sget_top _ _)]; rfl
    have g2 : Grow S (.box [eLims c.2.1.1 c.2.1.2 .ro, eLims c.2.2.1 c.2.2.2 .ro] :: .box (eCh c) :: S) := g1.cons _
    have hl : List.length (Ent.box (eCh c) :: S) = S.length + 1 := rfl
    have hS2 := sget_lt q2.choose_spec.choose_spec.2
    simp only [s12_0, lss_nat, hlt, decide_true, OX_tt, WB_true, ia_chs hc, ld_ch, OX_some, al_eq, st_ch, fa_bx, Nat.zero_add, bx_ch2, hst1]
    have q0' := q0.grow g2
    have q2' := q2.grow g2
    have hE' : EAt _ 1 e := g2.get hE
    simp only [hrow, OX_some, v48 nw w c.1 hw, un_not, jn, hl]
    generalize (Ent.box [eLims c.2.1.1 c.2.1.2 .ro, eLims c.2.2.1 c.2.2.2 .ro] :: .box (eCh c) :: S) = S20 at *
    have step : ∀ S' e' acc', St (wst w (wf w (l.take i)) c) e' acc' → EAt S' 1 e' → QAt S' 0 zeroQ → QAt S' 2 acc' → ∃ m', m' < l.length - i ∧ J12 nl nw l w m' (mkf 39 [(0, eRows nw w), (4, .bx 0 0), (5, a5), (6, .bx 1 0), (7, .bx 2 0), (16, eChs nl l), (17, .i .i64 l.length), (18, .i .i64 ((i + 1 : Nat) : Int)), (19, .top)]) S' := by
      intro S' e' acc' h1 h2 h3 h4
      refine ⟨l.length - (i + 1), by omega, i + 1, e', acc', a5, .top, rfl, by omega, ?_, h2, h3, h4, rfl⟩
      rw [take_snoc hc, wf_snoc]
      exact h1
    by_cases hin : c.1 ∈ w
    · have hf : wfac w c = qc c := if_pos hin
      simp only [hin, decide_true, Bool.not_true, WB_false]
      refine mul_in (wf w (l.take i)) (wfac w c) e acc (eCq c) S20 (S.length + 1) hst (st_vq hok hv i) (wfac_vq (hok c hm) (hv.all c hm)) (fun _ => by rw [hf]; exact rq) rq.isQ hE' q0' q2' qp (fun _ S42 => OX (binD .add .num (.i .i64 i) (.i .i64 1)) fun x43 => Qseq _ _ .normal (mkf 39 [(0, eRows nw w), (4, .bx 0 0), (5, a5), (6, .bx 1 0), (7, .bx 2 0), (16, eChs nl l), (17, .i .i64 l.length), (18, x43), (19, .top)]) S42) ?_
      intro S' e' acc' h1 h2 h3 h4
      simp only [inc_nat (show Bd i by unfold Bd at *; omega), OX_some, Qseq_normal]
      exact step S' e' acc' h1 h2 h3 h4
    · have hf : wfac w c = pcompl (qc c) := if_neg hin
      obtain ⟨d, S46, e46, hd, hE46, k46⟩ := v41 1 e (qc c) (eCq c) S20 hE' rq vq hle
      have hIs : IsQ d := by
        split at hd
        · exact hd.isQ
        · rw [hd]; exact isQ_zero
      obtain ⟨S48, e48, q48, l48, k48⟩ := (k46.q qp (by omega)).st hIs
      simp only [hin, decide_false, Bool.not_false, WB_true, qp.ld, OX_some, e46, e48]
      refine mul_in (wf w (l.take i)) (wfac w c) e acc d S48 (S.length + 1) hst (st_vq hok hv i) (wfac_vq (hok c hm) (hv.all c hm)) (fun h => by rw [hf]; rwa [if_pos h] at hd) hIs (by show sget S48 1 = _; rw [k48 1 (by omega)]; exact hE46) ((k46.q q0' (by decide)).ne k48 (by omega)) ((k46.q q2' (by decide)).ne k48 (by omega)) q48 (fun _ S42 => OX (binD .add .num (.i .i64 i) (.i .i64 1)) fun x43 => Qseq _ _ .normal (mkf 39 [(0, eRows nw w), (4, .bx 0 0), (5, a5), (6, .bx 1 0), (7, .bx 2 0), (16, eChs nl l), (17, .i .i64 l.length), (18, x43), (19, .top)]) S42) ?_
      intro S' e' acc' h1 h2 h3 h4
      simp only [inc_nat (show Bd i by unfold Bd at *; omega), OX_some, Qseq_normal]
      exact step S' e' acc' h1 h2 h3 h4
  · have : i = l.length := by omega
    subst this
    rw [List.take_length] at hst
    obtain ⟨S3, e3, k3⟩ := v43 1 e acc S hE hst.isQ
    have hIs : IsQ (if e = 0 then acc else zeroQ) := by split; exact hst.isQ; exact isQ_zero
    obtain ⟨S4, e4, q5, l4, k4⟩ := (k3.q q0 (by decide)).st hIs
    simp only [s12_0, lss_nat, hlt, decide_false, OX_ff, WB_false, Qseq_exit, Qblk_same]
    rw [← hR]
    simp only [QS_normal, e12_r0, s12_r0, q2.ld, OX_some, e3, ext_eq, List.getElem?_cons_zero, List.getElem?_cons_succ, e4]
    have hfin : RT (wf w l) 6 (stripT (.tup [if e = 0 then acc else zeroQ, .i .i64 e])) := by
      cases ho : wf w l with
      | none =>
        rw [ho] at hst
        obtain ⟨rfl, _⟩ := hst
        rfl
      | some q =>
        rw [ho] at hst
        obtain ⟨rfl, hq⟩ := hst
        refine ⟨acc, ?_, hq⟩
        rw [if_pos rfl]
        show D.tup [strip acc, _] = _
        rw [hq.strip]
        rfl
    show OX (ldc S4 2 true (.bx 0 0)) fun d => RT (wf w l) 6 (stripT (.tup [d, .i .i64 e]))
    rw [q5.ldc, OX_some]
    exact hfin

end Go.Proofs.YtjniafcnjbbomaaGreatDoor.DE.V

namespace Go.Proofs.YtjniafcnjbbomaaGreatDoor.DE.V
open Go NL

theorem v12_bad (nl nw : Bool) (l : List Ch) (w : List Row) (hok : OkL l) (hv : ¬ VL l) (hb : Bd l.length) : isoCall (call dp) 12 [eRows nw w, eChs nl l] = some (.tup [zeroQ, .i .i64 1]) := by
  apply i12 _ _ _ (by simp [noRefL]) (by simp [zeroQ, noRef, noRefL])
  have u14 := v14 nl l hok hb
  have hq := QAt.nil []
  obtain ⟨S3, e3, q3, l3, k3⟩ := hq.st isQ_zero
  simp only [s12, strip_eRows, strip_chs, al_eq, u14, hv, decide_false, OX_some, un_not, Bool.not_false, WB_true, bld0, zero_agg, e3, q3.ldc]
  rfl
theorem v13_bad (nl nw : Bool) (l : List Ch) (w : List Row) (hok : OkL l) (hv : ¬ VL l) (hb : Bd l.length) : isoCall (call dp) 13 [eRows nw w, eChs nl l] = some (.tup [zeroQ, .i .i64 1]) := by
  apply i13 _ _ _ (by simp [noRefL]) (by simp [zeroQ, noRef, noRefL])
  have u15 := v15 nl l hok hb
  have hq := QAt.nil []
  obtain ⟨S3, e3, q3, l3, k3⟩ := hq.st isQ_zero
  simp only [s13, strip_eRows, strip_chs, al_eq, u15, hv, decide_false, OX_some, un_not, Bool.not_false, WB_true, bld0, zero_agg, e3, q3.ldc]
  rfl

theorem wf_none (w : List Row) : ∀ l : List Ch, l.foldl (wst w) none = none
  | [] => rfl
  | c :: l => by rw [List.foldl_cons]; exact wf_none w l
theorem wf_take {w : List Row} {l : List Ch} {i : Nat} (h : wf w (l.take i) = none) : wf w l = none := by
  have e : l = l.take i ++ l.drop i := (List.take_append_drop i l).symm
  rw [e, wf, List.foldl_append]
  have : (l.take i).foldl (wst w) (some (1, 1)) = none := h
  rw [this]
  exact wf_none w _

def J13 (nl nw : Bool) (l : List Ch) (w : List Row) : Nat → List D → Store → Prop := fun n fr S => ∃ i q acc a5 a18, n = l.length - i ∧ i ≤ l.length ∧ wf w (l.take i) = some q ∧ Rq q acc ∧ QAt S 0 zeroQ ∧ QAt S 1 acc ∧
  fr = mkf 50 [(0, eRows nw w), (1, eChs nl l), (4, .bx 0 0), (5, a5), (6, .bx 1 0), (7, .i .i64 i), (18, a18)]

theorem v13_ok (nl nw : Bool) (l : List Ch) (w : List Row) (hok : OkL l) (hv : VL l) (hb : Bd l.length) (hw : Bd w.length) : ∃ r, isoCall (call dp) 13 [eRows nw w, eChs nl l] = some r ∧ RT (wf w l) 6 r := by
  apply j13 _ _ _ (by simp [noRefL]) (fun r h => h.noRef)
  have u15 := v15 nl l hok hb
  have hst : stD [Ent.box [.sl 1 true [] .ro, .sl 1 true [] .ro], .box [.sl 1 true [] .ro, .sl 1 true [] .ro]] 2 true (.bx 1 0) (eQ false false (ofN 1) (ofN 1)) = some [.box [eLims false (ofN 1) .ro, eLims false (ofN 1) .ro], .box [.sl 1 true [] .ro, .sl 1 true [] .ro]] := st2q _ 1 _ _ _ _ _ _ rfl
  simp only [s13, strip_eRows, strip_chs, al_eq, List.length_cons, List.length_nil, Nat.zero_add, u15, hv, decide_true, OX_some, un_not, Bool.not_true, WB_false, v46, hst]
  generalize hR : QS (call dp) c13_r0 _ = R
  refine W_loop (J13 nl nw l w) ?_ l.length _ _ ⟨0, (1, 1), _, .top, .top, by omega, by omega, rfl, ⟨false, false, rfl, fun h => (by cases h), fun h => (by cases h)⟩, ⟨_, _, rfl, rfl⟩, ⟨_, _, rfl, rfl⟩, rfl⟩
  rintro n fr S ⟨i, q, acc, a5, a18, rfl, hi, hst, hq, q0, q1, rfl⟩
  rw [← wp_W, e13_0]
  by_cases hlt : i < l.length
  · obtain ⟨c, hc⟩ : ∃ c, l[i]? = some c := ⟨l[i], List.getElem?_eq_getElem hlt⟩
    have hm := List.mem_of_getElem? hc
    obtain ⟨vq, rq, hle⟩ := vc_q (hok c hm) (hv.all c hm)
    have hst1 : stD (Ent.box [.sl 1 true [] .ro, .sl 1 true [] .ro] :: S) 2 true (.bx S.length 0) (eCq c) = some (.box [eLims c.2.1.1 c.2.1.2 .ro, eLims c.2.2.1 c.2.2.2 .ro] :: S) := by
      have := st2q (Ent.box [.sl 1 true [] .ro, .sl 1 true [] .ro] :: S) S.length _ _ c.2.1.1 c.2.2.1 c.2.1.2 c.2.2.2 (sget_top _ _)
      rw [sset_top] at this
      exact this
    have qp : QAt (.box [eLims c.2.1.1 c.2.1.2 .ro, eLims c.2.2.1 c.2.2.2 .ro] :: S) S.length (eCq c) := ⟨_, _, rfl, sget_top _ S⟩
    have g2 : Grow S (.box [eLims c.2.1.1 c.2.1.2 .ro, eLims c.2.2.1 c.2.2.2 .ro] :: S) := (Grow.refl S).cons _
    have hS1 := sget_lt q1.choose_spec.choose_spec.2
    have q0' := q0.grow g2
    have q1' := q1.grow g2
    simp only [s13_0, len_chs, OX_some, lss_nat, hlt, decide_true, WB_true, ia_chs hc, fa_el, Nat.zero_add, ld_ch2, al_eq, hst1, ld_ch0, v49 nw w c.1 hw, un_not, jn]
    generalize (Ent.box [eLims c.2.1.1 c.2.1.2 .ro, eLims c.2.2.1 c.2.2.2 .ro] :: S) = S12 at *
    have tail : ∀ S27 p, QAt S27 0 zeroQ → QAt S27 1 acc → QAt S27 S.length p → Rq (wfac w c) p →
      OX (ldD S27 2 true (.bx 1 0)) fun x28 =>
      OX (ldD S27 2 true (.bx S.length 0)) fun x29 =>
      OX (isoCall (call dp) 51 [x28, x29]) fun x30 =>
      OX (extD x30 0) fun x31 =>
      OX (extD x30 1) fun x32 =>
      OX (stD S27 2 true (.bx 1 0) x31) fun S34 =>
      OX (binD .neq .num x32 (.i .i64 0)) fun x35 =>
      WB x35
      (OX (bldV [.sl 1 true [] .ro, .sl 1 true [] .ro] []) fun x36 =>
      OX (stD S34 2 true (.bx 0 0) (.agg x36)) fun S38 =>
      Qseq (fun fr' S' => ∃ m', m' < l.length - i ∧ J13 nl nw l w m' fr' S') (Qblk 0 R) .ret (mkf 50 [(0, .top), (1, .top), (4, .bx 0 0), (5, x32), (6, .top), (7, .top), (18, .top)]) S38)
      (OX (binD .add .num (.i .i64 i) (.i .i64 1)) fun x39 =>
      Qseq (fun fr' S' => ∃ m', m' < l.length - i ∧ J13 nl nw l w m' fr' S') (Qblk 0 R) .normal (mkf 50 [(0, eRows nw w), (1, eChs nl l), (4, .bx 0 0), (5, a5), (6, .bx 1 0), (7, x39), (18, .top)]) S34) := by
      intro S27 p h0 h1 hp hr
      obtain ⟨r, er, hrt⟩ := v51 q (wfac w c) acc p hq hr (st_vq hok hv i q hst) (wfac_vq (hok c hm) (hv.all c hm))
      obtain ⟨dq, e, rfl, hst'⟩ := hrt.split
      obtain ⟨S34, e34, q34, l34, k34⟩ := h1.st hst'.isQ
      simp only [h1.ld, hp.ld, OX_some, er, ext_eq, List.getElem?_cons_zero, List.getElem?_cons_succ, e34, neq0]
      have hw' : wf w (l.take (i + 1)) = pmul q (wfac w c) := by
        rw [take_snoc hc, wf_snoc, hst]; rfl
      cases ho : pmul q (wfac w c) with
      | none =>
        rw [ho] at hst' hw'
        obtain ⟨rfl, _⟩ := hst'
        obtain ⟨S38, e38, q38, l38, k38⟩ := (h0.ne k34 (by decide) : QAt S34 0 zeroQ).st isQ_zero
        simp only [show decide ((6 : Int) = 0) = false from rfl, Bool.not_false, WB_true, bld0, OX_some, zero_agg, e38, Qseq_ret, Qblk_ret]
        rw [← hR]
        show OX (ldc S38 2 true (.bx 0 0)) fun d => RT (wf w l) 6 (stripT (.tup [d, .i .i64 6]))
        rw [q38.ldc, OX_some, wf_take hw']
        rfl
      | some q' =>
        rw [ho] at hst' hw'
        obtain ⟨rfl, hq'⟩ := hst'
        simp only [show decide ((0 : Int) = 0) = true from rfl, Bool.not_true, WB_false, inc_nat (show Bd i by unfold Bd at *; omega), OX_some, Qseq_normal]
        exact ⟨l.length - (i + 1), by omega, i + 1, q', dq, a5, .top, rfl, by omega, hw', hq', h0.ne k34 (by decide), q34, rfl⟩
    by_cases hin : c.1 ∈ w
    · have hf : wfac w c = qc c := if_pos hin
      simp only [hin, decide_true, Bool.not_true, WB_false]
      exact tail S12 (eCq c) q0' q1' qp (by rw [hf]; exact rq)
    · have hf : wfac w c = pcompl (qc c) := if_neg hin
      obtain ⟨r, er, dq, rfl, hdq⟩ := v50 (qc c) (eCq c) rq vq hle
      obtain ⟨S45, e45, q45, l45, k45⟩ := qp.st hdq.isQ
      simp only [hin, decide_false, Bool.not_false, WB_true, qp.ld, OX_some, er, ext_eq, List.getElem?_cons_zero, List.getElem?_cons_succ, e45]
      exact tail S45 dq (q0'.ne k45 (by omega)) (q1'.ne k45 (by omega)) q45 (by rw [hf]; exact hdq)
  · have : i = l.length := by omega
    subst this
    rw [List.take_length] at hst
    obtain ⟨S4, e4, q5, l4, k4⟩ := q0.st hq.isQ
    simp only [s13_0, len_chs, OX_some, lss_nat, hlt, decide_false, WB_false, Qseq_exit, Qblk_same]
    rw [← hR]
    simp only [QS_normal, e13_r0, s13_r0, q1.ld, OX_some, e4]
    show OX (ldc S4 2 true (.bx 0 0)) fun d => RT (wf w l) 6 (stripT (.tup [d, .i .i64 0]))
    rw [q5.ldc, OX_some, hst]
    refine ⟨acc, ?_, hq⟩
    show D.tup [strip acc, _] = _
    rw [hq.strip]
    rfl

/-! ### same -/
theorem v11 (o : Option Fq) (e : Int) (d d' : D) (c c' : D) (h : RT o e (.tup [d, c])) (h' : RT o e (.tup [d', c'])) (hl : ∀ q, o = some q → Lt128 q.1 ∧ Lt128 q.2) : isoCall (call dp) 11 [d, c, d', c'] = some (.b true) := by
  obtain ⟨n1, n2, m1, m2, a, b, k, rfl, rfl, rfl, rfl, la, lb⟩ : ∃ n1 n2 m1 m2 a b k, d = eQ n1 n2 a b ∧ d' = eQ m1 m2 a b ∧ c = .i .i64 k ∧ c' = .i .i64 k ∧ Bd a.length ∧ Bd b.length := by
    cases o with
    | none =>
      simp only [RT, D.tup.injEq, List.cons.injEq, and_true] at h h'
      obtain ⟨rfl, rfl⟩ := h
      obtain ⟨rfl, rfl⟩ := h'
      exact ⟨_, _, _, _, [], [], _, rfl, rfl, rfl, rfl, by unfold Bd; simp, by unfold Bd; simp⟩
    | some q =>
      obtain ⟨dq, h1, n1, n2, rfl, _⟩ := h
      obtain ⟨dq', h1', m1, m2, rfl, _⟩ := h'
      simp only [D.tup.injEq, List.cons.injEq, and_true] at h1 h1'
      obtain ⟨rfl, rfl⟩ := h1
      obtain ⟨rfl, rfl⟩ := h1'
      exact ⟨_, _, _, _, _, _, _, rfl, rfl, rfl, rfl, bd_ofN (hl q rfl).1, bd_ofN (hl q rfl).2⟩
  apply i11 _ _ _ _ _ (by simp [noRefL]) rfl
  have u16 := v16 n1 n2 m1 m2 a b a b la lb
  simp only [eQ] at u16
  simp [s11, u16, eQ]

end Go.Proofs.YtjniafcnjbbomaaGreatDoor.DE.V

namespace Go.Proofs.YtjniafcnjbbomaaGreatDoor.DE
open Go

structure Gh where
  blk : Nat
  lo : Nat
  hi : Nat

abbrev Fix := Nat → Nat → Prop

def OwnOk (G : List Gh) (b lo hi cap : Nat) : Own → Prop
  | .ro => True
  | .cap0 => cap = 0
  | .tok t => sget G t = some ⟨b, lo, hi⟩

inductive Rel (dp : Nat → Option Fn) (F : Fix) (G : List Gh) (w : World) : Value → D → Prop
  | top (v : Value) : Rel dp F G w v .top
  | b (x : Bool) : Rel dp F G w (.bool x) (.b x)
  | i (k : IntKind) (n : Int) : Rel dp F G w (.int k n) (.i k n)
  | s (l : List UInt8) : Rel dp F G w (.string ⟨l.toArray⟩) (.s l)
  | nil (k : Nat) (o : Own) : Rel dp F G w (.slice none 0 0) (.sl k true [] o)
  | sl (k : Nat) (xs : List (List D)) (o : Own) (blk off cap : Nat) (c : Nat → Nat → Value) (hk : ∀ x ∈ xs, x.length = k) (hcap : xs.length ≤ cap)
      (h1 : ∀ (j : Nat) (x : List D) (m : Nat) (d : D), xs[j]? = some x → x[m]? = some d → F blk (off + j * k + m) ∧ w.cell? ⟨blk, off + j * k + m, none⟩ = some (c j m) ∧ (c j m).oneCell' = true)
      (h2 : ∀ (j : Nat) (x : List D) (m : Nat) (d : D), xs[j]? = some x → x[m]? = some d → Rel dp F G w (c j m) d)
      (ho : OwnOk G blk (off + xs.length * k) (off + cap * k) cap o) : Rel dp F G w (.slice (some ⟨blk, off, none⟩) xs.length cap) (.sl k false xs o)
  | emp (k : Nat) (ad : Addr) (cap : Nat) : Rel dp F G w (.slice (some ad) 0 cap) (.sl k false [] .ro)
  | agg (vs : Array Value) (ds : List D) (hl : vs.size = ds.length) (h : ∀ (j : Nat) (v : Value) (d : D), vs[j]? = some v → ds[j]? = some d → Rel dp F G w v d) : Rel dp F G w (.agg vs) (.agg ds)
  | tup (vs : Array Value) (ds : List D) (hl : vs.size = ds.length) (h : ∀ (j : Nat) (v : Value) (d : D), vs[j]? = some v → ds[j]? = some d → Rel dp F G w v d) : Rel dp F G w (.tuple vs) (.tup ds)
  | bx (id o : Nat) (g : Gh) (hg : sget G id = some g) : Rel dp F G w (.pointer (some ⟨g.blk, o, none⟩)) (.bx id o)
  | el (cs : List D) (blk base o : Nat) (c : Nat → Value) (h1 : ∀ (m : Nat) (d : D), cs[m]? = some d → F blk (base + m) ∧ w.cell? ⟨blk, base + m, none⟩ = some (c m))
      (h2 : ∀ (m : Nat) (d : D), cs[m]? = some d → Rel dp F G w (c m) d) : Rel dp F G w (.pointer (some ⟨blk, base + o, none⟩)) (.el cs o)
  | ar (k id o n cap : Nat) (g : Gh) (hg : sget G id = some g) (hn : n ≤ cap ∧ o + cap * k ≤ g.hi) : Rel dp F G w (.slice (some ⟨g.blk, o, none⟩) n cap) (.ar k id o n)
  | nilp : Rel dp F G w (.pointer none) .nilp
  | nilm : Rel dp F G w (.map none) .nilm
  | mp (id : Nat) (g : Gh) (hg : sget G id = some g) : Rel dp F G w (.map (some g.blk)) (.mp id)
  | fn (g : Nat) (f : Fn) (hf : dp g = some f) (vs : Array Value) (ds : List D) (hl : vs.size = ds.length)
      (h : ∀ (j : Nat) (v : Value) (d : D), vs[j]? = some v → ds[j]? = some d → Rel dp F G w v d) : Rel dp F G w (.func (.func f.real) #[] vs) (.fn g ds)

def holds : Ent → Prop
  | .box _ => True
  | .map _ => True
  | .tok true => True
  | _ => False

def EntOk (dp : Nat → Option Fn) (F : Fix) (G : List Gh) (w : World) (g : Gh) : Ent → Prop
  | .box cs => ∃ vs T, w.heap[g.blk]? = some (.cells vs T (0, 0)) ∧ (cs.length ≤ vs.size ∧ g.hi ≤ vs.size) ∧ (∀ o, ¬ F g.blk o) ∧ (∀ v ∈ vs.toList, v.oneCell' = true) ∧ ∀ (m : Nat) (v : Value) (d : D), vs[m]? = some v → cs[m]? = some d → Rel dp F G w v d
  | .tok true => ∃ vs T, w.heap[g.blk]? = some (.cells vs T (0, 0)) ∧ g.hi ≤ vs.size ∧ ∀ o, g.lo ≤ o → ¬ F g.blk o
  | .map es => ∃ ents, w.heap[g.blk]? = some (.map ents es.length) ∧ ents.size = es.length ∧ ∀ (j : Nat) (e : MapEntry) (d : D × D), ents[j]? = some e → es[j]? = some d → e.born = j ∧ Rel dp F G w e.key d.1 ∧ Rel dp F G w e.val d.2
  | _ => True

/-- The block b is one that an entry of the store holds. -/
def Owns (S : Store) (G : List Gh) (b : Nat) : Prop := ∃ id e g, sget S id = some e ∧ holds e ∧ sget G id = some g ∧ g.blk = b

structure Sim (dp : Nat → Option Fn) (F : Fix) (G : List Gh) (w : World) (S : Store) : Prop where
  len : G.length = S.length
  fcell : ∀ b o, F b o → ∃ v, w.cell? ⟨b, o, none⟩ = some v
  ent : ∀ id e g, sget S id = some e → sget G id = some g → EntOk dp F G w g e
  sep : ∀ i j e e' g g', i ≠ j → sget S i = some e → sget S j = some e' → holds e → holds e' → sget G i = some g → sget G j = some g' → g.blk ≠ g'.blk

structure Ext (F : Fix) (G : List Gh) (w : World) (S : Store) (F' : Fix) (G' : List Gh) (w' : World) (S' : Store) : Prop where
  fsub : ∀ b o, F b o → F' b o
  gsub : ∀ id g, sget G id = some g → sget G' id = some g
  cells : ∀ b o, F b o → w'.cell? ⟨b, o, none⟩ = w.cell? ⟨b, o, none⟩
  frame : ∀ b, b < w.heap.size → ¬ Owns S G b → w'.heap[b]? = w.heap[b]?
  own : ∀ b, Owns S' G' b → Owns S G b ∨ w.heap.size ≤ b
  fnew : ∀ b o, F' b o → F b o ∨ Owns S G b ∨ w.heap.size ≤ b
  size : w.heap.size ≤ w'.heap.size
  os : w'.os = w.os
  tape : w'.tape = w.tape
  output : w'.output = w.output

section
variable {dp : Nat → Option Fn} {F F' : Fix} {G G' : List Gh} {w w' : World} {S S' : Store}

theorem sget_lt {α : Type} : ∀ {l : List α} {id : Nat} {x : α}, sget l id = some x → id < l.length
  | [], _, _, h => by cases h
  | e :: l, id, x, h => by
    simp only [sget] at h
    split at h
    · rename_i he; simp; omega
    · have := sget_lt h; simp; omega

theorem sget_some {α : Type} : ∀ (l : List α) (id : Nat), id < l.length → ∃ x, sget l id = some x
  | [], _, h => by simp at h
  | e :: l, id, h => by
    simp only [sget]
    split
    · exact ⟨e, rfl⟩
    · rename_i he
      exact sget_some l id (by simp at h; omega)

theorem sset_length {α : Type} : ∀ (l : List α) (id : Nat) (x : α), (sset l id x).length = l.length
  | [], _, _ => rfl
  | e :: l, id, x => by
    simp only [sset]
    split
    · rfl
    · simp [sset_length l id x]

theorem sget_sset {α : Type} : ∀ (l : List α) (id j : Nat) (x : α), sget (sset l id x) j = if j = id ∧ id < l.length then some x else sget l j
  | [], id, j, x => by simp [sset, sget]
  | e :: l, id, j, x => by
    simp only [sset]
    by_cases h : id = l.length
    · subst h
      by_cases hj : j = l.length
      · subst hj; simp [sget]
      · simp [sget, hj]
    · rw [if_neg h]
      simp only [sget, sset_length]
      by_cases hj : j = l.length
      · subst hj
        rw [if_pos rfl, if_pos rfl, if_neg (by omega)]
      · rw [if_neg hj, if_neg hj, sget_sset l id j x]
        by_cases hji : j = id
        · subst hji
          by_cases hl : j < l.length
          · rw [if_pos ⟨rfl, hl⟩, if_pos ⟨rfl, by simp; omega⟩]
          · rw [if_neg (by omega), if_neg (by simp; omega)]
        · rw [if_neg (by omega), if_neg (by omega)]

theorem sget_cons {α : Type} (e : α) (l : List α) (id : Nat) (h : id < l.length) : sget (e :: l) id = sget l id := by
  simp only [sget]; rw [if_neg (by omega)]

theorem sget_top {α : Type} (e : α) (l : List α) : sget (e :: l) l.length = some e := by simp [sget]

theorem fget_fset : ∀ (fr : List D) (n m : Nat) (v : D), fget (fset fr n v) m = if m = n ∧ n < fr.length then v else fget fr m
  | [], n, m, v => by simp [fset, fget]
  | d :: l, 0, 0, v => by simp [fset, fget]
  | d :: l, 0, m + 1, v => by simp [fset, fget]
  | d :: l, n + 1, 0, v => by simp [fset, fget]
  | d :: l, n + 1, m + 1, v => by simp only [fset, fget, fget_fset l n m v]; simp

theorem fset_length : ∀ (fr : List D) (n : Nat) (v : D), (fset fr n v).length = fr.length
  | [], _, _ => rfl
  | _ :: _, 0, _ => rfl
  | _ :: l, n + 1, v => by simp [fset, fset_length l n v]

theorem fget_ge : ∀ (fr : List D) (n : Nat), fr.length ≤ n → fget fr n = .top
  | [], _, _ => rfl
  | d :: l, 0, h => by simp at h
  | d :: l, n + 1, h => fget_ge l n (by simpa using h)

theorem fget_getElem : ∀ (fr : List D) (n : Nat) (d : D), fr[n]? = some d → fget fr n = d
  | [], _, _, h => by simp at h
  | x :: l, 0, d, h => by simpa [fget] using h
  | x :: l, n + 1, d, h => fget_getElem l n d (by simpa using h)

theorem Rel.mono {v : Value} {d : D} (h : Rel dp F G w v d) (hF : ∀ b o, F b o → F' b o) (hG : ∀ id g, sget G id = some g → sget G' id = some g)
    (hw : ∀ b o, F b o → w'.cell? ⟨b, o, none⟩ = w.cell? ⟨b, o, none⟩) : Rel dp F' G' w' v d := by
  induction h with
  | top v => exact .top v
  | b x => exact .b x
  | i k n => exact .i k n
  | s l => exact .s l
  | nil k o => exact .nil k o
  | sl k xs o blk off cap c hk hcap h1 h2 ho ih =>
    refine .sl k xs o blk off cap c hk hcap (fun j x m d hx hd => ?_) ih ?_
    · obtain ⟨a, b, e⟩ := h1 j x m d hx hd
      exact ⟨hF _ _ a, (hw _ _ a).trans b, e⟩
    · cases o with
      | ro => trivial
      | cap0 => exact ho
      | tok t => exact hG _ _ ho
  | emp k ad cap => exact .emp k ad cap
  | agg vs ds hl h ih => exact .agg vs ds hl ih
  | tup vs ds hl h ih => exact .tup vs ds hl ih
  | bx id o g hg => exact .bx id o g (hG _ _ hg)
  | el cs blk base o c h1 h2 ih =>
    refine .el cs blk base o c (fun m d hd => ?_) ih
    obtain ⟨a, b⟩ := h1 m d hd
    exact ⟨hF _ _ a, (hw _ _ a).trans b⟩
  | ar k id o n cap g hg hn => exact .ar k id o n cap g (hG _ _ hg) hn
  | nilp => exact .nilp
  | nilm => exact .nilm
  | mp id g hg => exact .mp id g (hG _ _ hg)
  | fn g f hf vs ds hl h ih => exact .fn g f hf vs ds hl ih

theorem Rel.ext {v : Value} {d : D} (h : Rel dp F G w v d) (e : Ext F G w S F' G' w' S') : Rel dp F' G' w' v d := h.mono e.fsub e.gsub e.cells

theorem noRefL_get : ∀ {l : List D} {j : Nat} {d : D}, noRefL l = true → l[j]? = some d → noRef d = true
  | [], _, _, _, h => by simp at h
  | x :: l, 0, d, hn, h => by
    simp only [noRefL, Bool.and_eq_true] at hn
    simp at h; subst h; exact hn.1
  | x :: l, j + 1, d, hn, h => by
    simp only [noRefL, Bool.and_eq_true] at hn
    exact noRefL_get hn.2 (by simpa using h)

theorem noRefLL_get : ∀ {l : List (List D)} {j : Nat} {x : List D}, noRefLL l = true → l[j]? = some x → noRefL x = true
  | [], _, _, _, h => by simp at h
  | x :: l, 0, d, hn, h => by
    simp only [noRefLL, Bool.and_eq_true] at hn
    simp at h; subst h; exact hn.1
  | x :: l, j + 1, d, hn, h => by
    simp only [noRefLL, Bool.and_eq_true] at hn
    exact noRefLL_get hn.2 (by simpa using h)

/-- A plain value says nothing of the store. -/
theorem Rel.plain {v : Value} {d : D} (h : Rel dp F G w v d) : noRef d = true → ∀ G', Rel dp F G' w v d := by
  induction h with
  | top v => exact fun _ _ => .top v
  | b x => exact fun _ _ => .b x
  | i k n => exact fun _ _ => .i k n
  | s l => exact fun _ _ => .s l
  | nil k o => exact fun _ _ => .nil k o
  | sl k xs o blk off cap c hk hcap h1 h2 ho ih =>
    intro hn G'
    simp only [noRef, Bool.and_eq_true] at hn
    refine .sl k xs o blk off cap c hk hcap h1 (fun j x m d hx hd => ih j x m d hx hd (noRefL_get (noRefLL_get hn.2 hx) hd) G') ?_
    cases o with
    | ro => trivial
    | cap0 => exact ho
    | tok t => simp at hn
  | emp k ad cap => exact fun _ _ => .emp k ad cap
  | agg vs ds hl h ih => exact fun hn G' => .agg vs ds hl fun j v d hv hd => ih j v d hv hd (noRefL_get (by simpa only [noRef] using hn) hd) G'
  | tup vs ds hl h ih => exact fun hn G' => .tup vs ds hl fun j v d hv hd => ih j v d hv hd (noRefL_get (by simpa only [noRef] using hn) hd) G'
  | bx id o g hg => exact fun hn => by simp [noRef] at hn
  | el cs blk base o c h1 h2 ih => exact fun hn => by simp [noRef] at hn
  | ar k id o n cap g hg hn => exact fun hn => by simp [noRef] at hn
  | nilp => exact fun _ _ => .nilp
  | nilm => exact fun _ _ => .nilm
  | mp id g hg => exact fun hn => by simp [noRef] at hn
  | fn g f hf vs ds hl h ih => exact fun hn G' => .fn g f hf vs ds hl fun j v d hv hd => ih j v d hv hd (noRefL_get (by simpa only [noRef] using hn) hd) G'

theorem Rel.strip1 {v : Value} {d : D} (h : Rel dp F G w v d) : Rel dp F G w v (strip1 d) := by
  cases h with
  | nil k o => exact .nil k .ro
  | emp k ad cap => exact .emp k ad cap
  | sl k xs o blk off cap c hk hcap h1 h2 ho => exact .sl k xs .ro blk off cap c hk hcap h1 h2 trivial
  | top v => exact .top v
  | b x => exact .b x
  | i k n => exact .i k n
  | s l => exact .s l
  | agg vs ds hl h => exact .agg vs ds hl h
  | tup vs ds hl h => exact .tup vs ds hl h
  | bx id o g hg => exact .bx id o g hg
  | el cs blk base o c h1 h2 => exact .el cs blk base o c h1 h2
  | ar k id o n cap g hg hn => exact .ar k id o n cap g hg hn
  | nilp => exact .nilp
  | nilm => exact .nilm
  | mp id g hg => exact .mp id g hg
  | fn g f hf vs ds hl h => exact .fn g f hf vs ds hl h

theorem strip1L_get : ∀ {l : List D} {j : Nat} {d : D}, (strip1L l)[j]? = some d → ∃ e, l[j]? = some e ∧ d = strip1 e
  | [], _, _, h => by simp [strip1L] at h
  | x :: l, 0, d, h => ⟨x, rfl, by simpa [strip1L] using h.symm⟩
  | x :: l, j + 1, d, h => by
    obtain ⟨e, a, b⟩ := strip1L_get (l := l) (j := j) (by simpa [strip1L] using h)
    exact ⟨e, by simpa using a, b⟩

theorem strip1L_length : ∀ l : List D, (strip1L l).length = l.length
  | [] => rfl
  | _ :: l => by simp [strip1L, strip1L_length l]

theorem stripL_get : ∀ {l : List D} {j : Nat} {d : D}, (stripL l)[j]? = some d → ∃ e, l[j]? = some e ∧ d = strip e
  | [], _, _, h => by simp [stripL] at h
  | x :: l, 0, d, h => ⟨x, rfl, by simpa [stripL] using h.symm⟩
  | x :: l, j + 1, d, h => by
    obtain ⟨e, a, b⟩ := stripL_get (l := l) (j := j) (by simpa [stripL] using h)
    exact ⟨e, by simpa using a, b⟩

theorem stripL_length : ∀ l : List D, (stripL l).length = l.length
  | [] => rfl
  | _ :: l => by simp [stripL, stripL_length l]

theorem Rel.strip {v : Value} {d : D} (h : Rel dp F G w v d) : Rel dp F G w v (strip d) := by
  cases h with
  | agg vs ds hl h =>
    refine .agg vs _ (by rw [strip1L_length]; exact hl) fun j v d hv hd => ?_
    obtain ⟨e, he, rfl⟩ := strip1L_get hd
    exact (h j v e hv he).strip1
  | nil k o => exact .nil k .ro
  | emp k ad cap => exact .emp k ad cap
  | sl k xs o blk off cap c hk hcap h1 h2 ho => exact .sl k xs .ro blk off cap c hk hcap h1 h2 trivial
  | top v => exact .top v
  | b x => exact .b x
  | i k n => exact .i k n
  | s l => exact .s l
  | tup vs ds hl h => exact .tup vs ds hl h
  | bx id o g hg => exact .bx id o g hg
  | el cs blk base o c h1 h2 => exact .el cs blk base o c h1 h2
  | ar k id o n cap g hg hn => exact .ar k id o n cap g hg hn
  | nilp => exact .nilp
  | nilm => exact .nilm
  | mp id g hg => exact .mp id g hg
  | fn g f hf vs ds hl h => exact .fn g f hf vs ds hl h

theorem Rel.stripT {v : Value} {d : D} (h : Rel dp F G w v d) : Rel dp F G w v (stripT d) := by
  cases h with
  | tup vs ds hl h =>
    refine .tup vs _ (by rw [stripL_length]; exact hl) fun j v d hv hd => ?_
    obtain ⟨e, he, rfl⟩ := stripL_get hd
    exact (h j v e hv he).strip
  | agg vs ds hl h => exact (Rel.agg vs ds hl h).strip
  | nil k o => exact .nil k .ro
  | emp k ad cap => exact .emp k ad cap
  | sl k xs o blk off cap c hk hcap h1 h2 ho => exact .sl k xs .ro blk off cap c hk hcap h1 h2 trivial
  | top v => exact .top v
  | b x => exact .b x
  | i k n => exact .i k n
  | s l => exact .s l
  | bx id o g hg => exact .bx id o g hg
  | el cs blk base o c h1 h2 => exact .el cs blk base o c h1 h2
  | ar k id o n cap g hg hn => exact .ar k id o n cap g hg hn
  | nilp => exact .nilp
  | nilm => exact .nilm
  | mp id g hg => exact .mp id g hg
  | fn g f hf vs ds hl h => exact .fn g f hf vs ds hl h

theorem Ext.refl (F : Fix) (G : List Gh) (w : World) (S : Store) : Ext F G w S F G w S :=
  ⟨fun _ _ h => h, fun _ _ h => h, fun _ _ _ => rfl, fun _ _ _ => rfl, fun _ h => .inl h, fun _ _ h => .inl h, Nat.le_refl _, rfl, rfl, rfl⟩

theorem Ext.trans {F1 F2 F3 : Fix} {G1 G2 G3 : List Gh} {w1 w2 w3 : World} {S1 S2 S3 : Store} (h : Ext F1 G1 w1 S1 F2 G2 w2 S2) (k : Ext F2 G2 w2 S2 F3 G3 w3 S3) :
    Ext F1 G1 w1 S1 F3 G3 w3 S3 where
  fsub b o x := k.fsub b o (h.fsub b o x)
  gsub id g x := k.gsub id g (h.gsub id g x)
  cells b o x := (k.cells b o (h.fsub b o x)).trans (h.cells b o x)
  frame b hb hn := by
    rw [k.frame b (Nat.lt_of_lt_of_le hb h.size) fun hx => ?_]
    · exact h.frame b hb hn
    · rcases h.own b hx with hx | hx
      · exact hn hx
      · omega
  own b hx := by
    rcases k.own b hx with hx | hx
    · exact h.own b hx
    · have := h.size; exact .inr (by omega)
  fnew b o hx := by
    rcases k.fnew b o hx with hx | hx | hx
    · exact h.fnew b o hx
    · exact .inr (h.own b hx)
    · have := h.size; exact .inr (.inr (by omega))
  size := Nat.le_trans h.size k.size
  os := k.os.trans h.os
  tape := k.tape.trans h.tape
  output := k.output.trans h.output

end

end Go.Proofs.YtjniafcnjbbomaaGreatDoor.DE

namespace Go.Proofs.YtjniafcnjbbomaaGreatDoor.DE
open Go

/-! ## Matching -/

def mV1 : Value → D → Bool
  | _, .top => true
  | .int k n, .i k' m => decide (k = k') && n == m
  | .bool a, .b c => a == c
  | .string s, .s l => s.data.toList == l
  | .slice none 0 0, .sl _ true [] _ => true
  | .map none, .nilm => true
  | .pointer none, .nilp => true
  | _, _ => false

def mVL : List Value → List D → Bool
  | [], [] => true
  | v :: l, d :: m => mV1 v d && mVL l m
  | _, _ => false

def mV : Value → D → Bool
  | .agg vs, .agg ds => mVL vs.toList ds
  | v, d => mV1 v d

section
variable (P : Program) (dp : Nat → Option Fn)

def mF (f : FuncId) (g : Nat) : Bool := match dp g with
  | some x => x.real == f
  | none => false

def mA : Operand → A → Bool
  | .tmp t, .t n => t == n
  | .const v, .c d => mV v d
  | .func f, .c (.fn g []) => mF dp f g
  | _, .c .top => true
  | _, _ => false

def mAs : List Operand → List A → Bool
  | [], [] => true
  | x :: l, y :: m => mA dp x y && mAs l m
  | _, _ => false

def mAo : Option Operand → Option A → Bool
  | none, none => true
  | some x, some y => mA dp x y
  | _, _ => false

/-- Type t has k cells; g: it is a struct or an array. -/
def mT (t : TypeId) (k : Nat) (g : Bool) : Bool :=
  (match P.info? t with | some i => i.size == k | none => false) &&
  (match P.underlying t with
  | some (.struct _) => g
  | some (.array _ _) => g
  | some _ => !g && k == 1
  | none => false)

def mSz (t : TypeId) (k : Nat) : Bool := match P.info? t with | some i => i.size == k | none => false

def mZ (t : TypeId) (z : List D) : Bool := match P.info? t with
  | some i => match i.zero with
    | some v => mVL v.cells.toList z && v.cells.toList.all Value.oneCell'
    | none => false
  | none => false

/-- The zero value of t, as one value. -/
def mZ1 (t : TypeId) (z : D) : Bool := match P.info? t with
  | some i => match i.zero with
    | some v => mV v z
    | none => false
  | none => false

def mU (t : TypeId) (p : TypeDesc → Bool) : Bool := match P.underlying t with | some d => p d | none => false

def isSliceOf (k : Nat) : TypeDesc → Bool
  | .slice e => mSz P e k
  | _ => false

def isString : TypeDesc → Bool
  | .string => true
  | _ => false

def mSK (t : TypeId) : SK → Bool
  | .i => mU P t fun d => match d with | .int _ => true | _ => false
  | .b => mU P t fun d => match d with | .bool => true | _ => false
  | .s => mU P t fun d => match d with | .string => true | _ => false

def flatFields : List Field → Nat → List SK → Bool
  | [], _, [] => true
  | f :: l, n, k :: ks => f.name != "_" && mSK P f.type k && mSz P f.type 1 && f.offset == n && flatFields l (n + 1) ks
  | _, _, _ => false

/-- t is a struct or an array of scalars of these kinds, all of which count in '=='. -/
def mFlat (t : TypeId) (ks : List SK) : Bool := match P.underlying t with
  | some (.struct fs) => !P.stoodInHeld t && !P.eqGuardType P.depth t && flatFields P fs.toList 0 ks
  | some (.array n e) => n == 2 && !P.eqGuardType P.depth t && ks.length == n && ks.all (mSK P e) && mSz P e 1
  | _ => false

/-- The type's kind in a comparison. -/
def mQ (t : TypeId) : Q → Bool
  | .num => true
  | .str => true
  | .bool => mU P t fun d => match d with | .bool => true | _ => false
  | .agg ks => mFlat P t ks
  | .sl => mU P t fun d => match d with | .slice _ => true | _ => false
  | .map => mU P t fun d => match d with | .map _ _ => true | _ => false

def mKey (t : TypeId) : KK → Bool
  | .one k => mSK P t k
  | .agg ks => mFlat P t ks

def mParts (places : List (Nat × TypeId)) : List (Nat × Operand) → List (Nat × Nat × Bool × A) → Bool
  | [], [] => true
  | (i, x) :: l, (o, k, g, y) :: m => (match places[i]? with | some (off, t) => off == o && mT P t k g | none => false) && mA dp x y && mParts places l m
  | _, _ => false

def mElems (k : Nat) (g : Bool) : Nat → List (Nat × Operand) → List A → Bool
  | _, [], [] => true
  | n, (i, x) :: l, y :: m => i == n && mA dp x y && mElems k g (n + 1) l m
  | _, _, _ => false

def mCallee (f : FuncId) : Bool := match P.funcs[f]? with
  | some fn => fn.name != "runtime.NumGoroutine" && fn.body.isSome
  | none => false

def mR (o : Op) : R → Bool
  | .mv y => match o with
    | .move x => mA dp x y
    | .assign x => mA dp x y
    | _ => false
  | .nilck y => match o with
    | .nilCheck x => mA dp x y
    | _ => false
  | .pick c a b => match o with
    | .pick c' a' b' => mA dp c' c && mA dp a' a && mA dp b' b
    | _ => false
  | .alloc z => match o with
    | .alloc t => mZ P t z
    | _ => false
  | .box k g y => match o with
    | .box t x => mT P t k g && mA dp x y
    | _ => false
  | .bld z ps => match o with
    | .build t parts => mZ P t z && (match P.underlying t with
      | some (.struct fs) => fs.toList.all (fun f => (P.info? f.type).isSome) && mParts P dp (fs.toList.map fun f => (f.offset, f.type)) parts.toList ps
      | some (.array n e) => (match P.info? e with | some i => mParts P dp ((List.range n).map fun j => (j * i.size, e)) parts.toList ps | none => false)
      | _ => false)
    | _ => false
  | .bsl k g _ ys => match o with
    | .buildSlice t len parts => (match P.underlying t with
      | some (.slice e) => mT P e k g && decide (0 < k) && decide (k ≤ 4096) && len == ys.length && decide (len ≤ 1024) && (match P.info? e with | some i => (match i.zero with | some v => v.cells.size == k | none => false) | none => false) && mElems dp k g 0 parts.toList ys
      | _ => false)
    | _ => false
  | .bsa k g ys => match o with
    | .buildSlice t len parts => (match P.underlying t with
      | some (.slice e) => mT P e k g && decide (0 < k) && decide (k ≤ 4096) && len == ys.length && decide (len ≤ 1024) && (match P.info? e with | some i => (match i.zero with | some v => v.cells.size == k | none => false) | none => false) && mElems dp k g 0 parts.toList ys
      | _ => false)
    | _ => false
  | .ld k g y => match o with
    | .load t x => mT P t k g && mA dp x y
    | _ => false
  | .st k g y u => match o with
    | .store t x v => mT P t k g && mA dp x y && mA dp v u
    | _ => false
  | .bin op q y z => match o with
    | .binOp op' t x v _ => decide (op = op') && mQ P t q && mA dp x y && mA dp v z
    | _ => false
  | .un op y => match o with
    | .unOp op' _ x => decide (op = op') && mA dp x y
    | _ => false
  | .conv k y => match o with
    | .convert s d x => (P.underlying s).isSome && mU P d (fun d => match d with | .int k' => decide (k = k') | _ => false) && mA dp x y
    | _ => false
  | .mkfn g ys => match o with
    | .makeFunc (.func f) first captured => first.isEmpty && mF dp f g && mAs dp captured.toList ys
    | _ => false
  | .mkmap => match o with
    | .makeMap _ none => true
    | _ => false
  | .mksl k _ z y => match o with
    | .makeSlice t x c => (match P.underlying t with
      | some (.slice e) => mSz P e k && mZ P e z && z.length == k && decide (0 < k) && (match P.info? e with | some i => decide (i.bytes ≤ 65536) | none => false)
      | _ => false) && mA dp x y && mA dp c y
    | _ => false
  | .slc k y lo hi => match o with
    | .slice t x l h none => mU P t (isSliceOf P k) && mA dp x y && mAo dp l lo && mAo dp h hi
    | _ => false
  | .slcs y lo hi => match o with
    | .slice t x l h none => mU P t isString && mA dp x y && mAo dp l lo && mAo dp h hi
    | _ => false
  | .fa off y => match o with
    | .fieldAddr t x j => (match P.underlying t with
      | some (.struct fs) => (match fs[j]? with | some f => f.offset == off && (match P.info? f.type with | some i => i.size != 0 | none => false) | none => false)
      | _ => false) && mA dp x y
    | _ => false
  | .fld off k g y => match o with
    | .field t x j => (match P.underlying t with
      | some (.struct fs) => (match fs[j]? with | some f => f.offset == off && mT P f.type k g | none => false)
      | _ => false) && mA dp x y
    | _ => false
  | .ia k y j => match o with
    | .indexAddr t x i => mU P t (isSliceOf P k) && mA dp x y && mA dp i j
    | _ => false
  | .iaa n k y j => match o with
    | .indexAddr t x i => mU P t (fun d => match d with | .array m e => m == n && mSz P e k | _ => false) && mA dp x y && mA dp i j
    | _ => false
  | .ixs y j => match o with
    | .index t x i => mU P t isString && mA dp x y && mA dp i j
    | _ => false
  | .lk kk ok z y key => match o with
    | .lookup t x i ok' => ok == ok' && (match P.underlying t with | some (.map kt et) => mKey P kt kk && mZ1 P et z | _ => false) && mA dp x y && mA dp i key
    | _ => false
  | .mu kk y key v => match o with
    | .mapUpdate t x i u => (match P.underlying t with | some (.map kt _) => mKey P kt kk | _ => false) && mA dp x y && mA dp i key && mA dp u v
    | .insert t x i u => (match P.underlying t with | some (.map kt _) => mKey P kt kk | _ => false) && mA dp x y && mA dp i key && mA dp u v
    | _ => false
  | .ment kk z y key => match o with
    | .mapEntry t x i => (match P.underlying t with | some (.map kt et) => mKey P kt kk && mZ1 P et z | _ => false) && mA dp x y && mA dp i key
    | _ => false
  | .est y j v => match o with
    | .entryStore _ x i u => mA dp x y && mA dp i j && mA dp u v
    | _ => false
  | .ext y j => match o with
    | .extract x i => i == j && mA dp x y
    | _ => false
  | .len str y => match o with
    | .call c => (match c.callee with | .builtin .len => true | _ => false) && (match c.argTypes.toList with | t :: _ => mU P t (fun d => match d with | .slice _ => !str | .string => str | _ => false) | _ => false) && mAs dp c.args.toList [y]
    | _ => false
  | .app k _ y z => match o with
    | .call c => (match c.callee with | .builtin .append => true | _ => false) && (match c.argTypes.toList with
        | [t, u] => (match P.underlying t with
          | some (.slice e) => mSz P e k && decide (0 < k) && (match P.info? e with | some i => decide (i.bytes ≤ 65536) && (match i.zero with | some v => v.cells.size == k && v.cells.toList.all Value.oneCell' | none => false) | none => false)
          | _ => false) && mU P u (fun d => match d with | .slice _ => true | _ => false)
        | _ => false) && mAs dp c.args.toList [y, z]
    | _ => false
  | .mx y z => match o with
    | .call c => (match c.callee with | .builtin .max => true | _ => false) && mAs dp c.args.toList [y, z]
    | _ => false
  | .mn y z => match o with
    | .call c => (match c.callee with | .builtin .min => true | _ => false) && mAs dp c.args.toList [y, z]
    | _ => false
  | .clr k z y => match o with
    | .call c => (match c.callee with | .builtin .clear => true | _ => false) && (match c.argTypes.toList with
        | [t] => (match P.underlying t with | some (.slice e) => mSz P e k && mZ P e z | _ => false)
        | _ => false) && mAs dp c.args.toList [y]
    | _ => false
  | .call g _ ys => match o with
    | .call c => (match c.callee with | .value (.func f) => mF dp f g | _ => false) && mAs dp c.args.toList ys
    | _ => false
  | .calld y _ ys => match o with
    | .call c => (match c.callee with | .value x => mA dp x y | _ => false) && mAs dp c.args.toList ys
    | _ => false
  | .cmps y z => match o with
    | .call c => (match c.callee with
      | .value (.func f) => (match P.funcs[f]? with | some fn => fn.name == "internal/bytealg.abigen_runtime_cmpstring" && fn.body.isNone && (Extern.findNext fn).isNone | none => false)
      | _ => false) && mAs dp c.args.toList [y, z]
    | _ => false

end

/-! ## Operands -/

section
variable {P : Program} {dp : Nat → Option Fn} {F F' : Fix} {G G' : List Gh} {w w' : World} {S S' : Store}

theorem mV1_rel {v : Value} {d : D} (h : mV1 v d = true) : Rel dp F G w v d := by
  unfold mV1 at h
  split at h
  · exact .top _
  · simp only [Bool.and_eq_true, decide_eq_true_eq, beq_iff_eq] at h
    obtain ⟨rfl, rfl⟩ := h
    exact .i _ _
  · simp only [beq_iff_eq] at h; subst h; exact .b _
  · rename_i s l
    simp only [beq_iff_eq] at h
    subst h
    exact .s _
  · exact .nil _ _
  · exact .nilm
  · exact .nilp
  · cases h

theorem mVL_get : ∀ {vs : List Value} {ds : List D} {j : Nat} {v : Value} {d : D}, mVL vs ds = true → vs[j]? = some v → ds[j]? = some d → mV1 v d = true
  | [], [], _, _, _, _, h, _ => by simp at h
  | [], _ :: _, _, _, _, h, _, _ => by simp [mVL] at h
  | _ :: _, [], _, _, _, h, _, _ => by simp [mVL] at h
  | x :: l, y :: m, 0, v, d, h, hv, hd => by
    simp only [mVL, Bool.and_eq_true] at h
    simp at hv hd
    subst hv hd
    exact h.1
  | x :: l, y :: m, j + 1, v, d, h, hv, hd => by
    simp only [mVL, Bool.and_eq_true] at h
    exact mVL_get h.2 (by simpa using hv) (by simpa using hd)

theorem mVL_length : ∀ {vs : List Value} {ds : List D}, mVL vs ds = true → vs.length = ds.length
  | [], [], _ => rfl
  | [], _ :: _, h => by simp [mVL] at h
  | _ :: _, [], h => by simp [mVL] at h
  | _ :: l, _ :: m, h => by
    simp only [mVL, Bool.and_eq_true] at h
    simp [mVL_length h.2]

theorem mV_rel {v : Value} {d : D} (h : mV v d = true) : Rel dp F G w v d := by
  unfold mV at h
  split at h
  · rename_i vs ds
    refine .agg vs ds (by simpa using mVL_length h) fun j v d hv hd => mV1_rel (mVL_get h ?_ hd)
    simpa using hv
  · exact mV1_rel h

/-- The frame's slots say what the evaluator's say. -/
structure Fr (dp : Nat → Option Fn) (F : Fix) (G : List Gh) (w : World) (a : Act) (fr : List D) : Prop where
  len : fr.length = a.tmps.size
  rel : ∀ t, Rel dp F G w (a.tmps.getD t undef) (fget fr t)

theorem Fr.ext {a : Act} {fr : List D} (h : Fr dp F G w a fr) (e : Ext F G w S F' G' w' S') : Fr dp F' G' w' a fr := ⟨h.len, fun t => (h.rel t).ext e⟩

theorem Fr.eval {a : Act} {fr : List D} (h : Fr dp F G w a fr) {x : Operand} {y : A} (hm : mA dp x y = true) : Rel dp F G w (a.eval x) (av fr y) := by
  unfold mA at hm
  split at hm
  · rename_i t n
    simp only [beq_iff_eq] at hm
    subst hm
    exact h.rel t
  · exact mV_rel hm
  · rename_i f g
    unfold mF at hm
    split at hm
    · rename_i x hx
      simp only [beq_iff_eq] at hm
      subst hm
      exact .fn g x hx #[] [] rfl (fun j v d hv => by simp at hv)
    · cases hm
  · exact .top _
  · cases hm

theorem Fr.evals {a : Act} {fr : List D} (h : Fr dp F G w a fr) : ∀ {xs : List Operand} {ys : List A}, mAs dp xs ys = true →
    xs.length = ys.length ∧ (avs fr ys).length = ys.length ∧ ∀ (j : Nat) (v : Value) (d : D), (xs.map a.eval)[j]? = some v → (avs fr ys)[j]? = some d → Rel dp F G w v d
  | [], [], _ => ⟨rfl, rfl, fun j v d hv => by simp at hv⟩
  | [], _ :: _, hm => by simp [mAs] at hm
  | _ :: _, [], hm => by simp [mAs] at hm
  | x :: l, y :: m, hm => by
    simp only [mAs, Bool.and_eq_true] at hm
    obtain ⟨h1, h2, h3⟩ := h.evals hm.2
    refine ⟨by simp [h1], by simp [avs, h2], fun j v d hv hd => ?_⟩
    cases j with
    | zero =>
      simp [avs] at hv hd
      subst hv hd
      exact h.eval hm.1
    | succ j => exact h3 j v d (by simpa using hv) (by simpa [avs] using hd)

theorem Fr.put {a : Act} {fr : List D} (h : Fr dp F G w a fr) (t : Option Nat) {v : Value} {d : D} (hv : Rel dp F G w v d) : Fr dp F G w (a.put t v) (fsetO fr t d) := by
  cases t with
  | none => exact h
  | some t =>
    refine ⟨by simp [fsetO, fset_length, Act.put, h.len], fun u => ?_⟩
    simp only [fsetO, fget_fset, Act.put]
    by_cases hu : u = t ∧ t < fr.length
    · obtain ⟨rfl, hu⟩ := hu
      rw [if_pos ⟨rfl, hu⟩]
      rw [h.len] at hu
      simpa [Array.getD, hu] using hv
    · rw [if_neg hu]
      have := h.rel u
      by_cases hut : u = t
      · subst hut
        have hlt : ¬ u < a.tmps.size := by rw [← h.len]; omega
        simpa [Array.getD, hlt] using this
      · have e : (a.tmps.setIfInBounds t v).getD u undef = a.tmps.getD u undef := by
          simp only [Array.getD_eq_getD_getElem?]
          rw [Array.getElem?_setIfInBounds_ne (Ne.symm hut)]
        rw [e]; exact this

theorem Fr.kill1 {a : Act} {fr : List D} (h : Fr dp F G w a fr) (t : Nat) : Fr dp F G w a (fset fr t .top) := by
  refine ⟨by simp [fset_length, h.len], fun u => ?_⟩
  rw [fget_fset]
  split
  · exact .top _
  · exact h.rel u

theorem Fr.kill {a : Act} {fr : List D} (h : Fr dp F G w a fr) : ∀ l : List Nat, Fr dp F G w a (fkill fr l) := by
  intro l
  induction l generalizing fr with
  | nil => exact h
  | cons t l ih => exact ih (h.kill1 t)

end

end Go.Proofs.YtjniafcnjbbomaaGreatDoor.DE

namespace Go.Proofs.YtjniafcnjbbomaaGreatDoor.DE
open Go

section
variable {P : Program} {dp : Nat → Option Fn} {F F' : Fix} {G G' : List Gh} {w w' : World} {S S' : Store} {a : Act} {fr : List D} {o : Oper} {d : D}

/-- The operation gives a value and leaves the world alone. -/
def Pur (P : Program) (dp : Nat → Option Fn) (F : Fix) (G : List Gh) (w : World) (a : Act) (o : Oper) (d : D) : Prop :=
  ∃ v, (execOp a.eval o).run P w = .ok (.value v) w ∧ Rel dp F G w v d

theorem pur_mv {y : A} (hm : mR P dp o.op (.mv y) = true) (hf : Fr dp F G w a fr) : Pur P dp F G w a o (av fr y) := by
  simp only [mR] at hm
  split at hm
  · rename_i x ho
    exact ⟨a.eval x, by simp only [execOp, ho, Sem.run_pure], hf.eval hm⟩
  · rename_i x ho
    exact ⟨a.eval x, by simp only [execOp, ho, Sem.run_pure], hf.eval hm⟩
  · cases hm

theorem pur_nilck {y : A} (hm : mR P dp o.op (.nilck y) = true) (hf : Fr dp F G w a fr)
    (he : (match av fr y with | .bx _ _ => true | .el _ _ => true | .fn _ _ => true | _ => false) = true) : Pur P dp F G w a o (av fr y) := by
  simp only [mR] at hm
  split at hm
  · rename_i x ho
    have hr := hf.eval hm
    refine ⟨a.eval x, ?_, hr⟩
    simp only [execOp, ho]
    generalize a.eval x = v at hr
    generalize av fr y = e at hr he
    cases hr <;> simp at he <;> simp
  · cases hm

theorem pur_pick {c x y : A} {t : Bool} (hm : mR P dp o.op (.pick c x y) = true) (hf : Fr dp F G w a fr) (he : av fr c = .b t) :
    Pur P dp F G w a o (if t then av fr x else av fr y) := by
  simp only [mR] at hm
  split at hm
  · rename_i c' x' y' ho
    simp only [Bool.and_eq_true] at hm
    obtain ⟨⟨h1, h2⟩, h3⟩ := hm
    have hc := hf.eval h1
    rw [he] at hc
    generalize hv : a.eval c' = v at hc
    cases hc
    refine ⟨if t then a.eval x' else a.eval y', ?_, ?_⟩
    · simp only [execOp, ho, hv, asBool, Sem.run_bind, Sem.run_pure, Result.andThen]
    · cases t
      · exact hf.eval h3
      · exact hf.eval h2
  · cases hm

theorem rel_oneCell {v : Value} (h : Rel dp F G w v d) (hd : isCell d = true) : v.oneCell' = true ∧ v.cells = #[v] := by
  cases h <;> first | (simp [isCell] at hd; done) | exact ⟨rfl, rfl⟩

theorem cellsK_rel {k : Nat} {g : Bool} {v : Value} {cs : List D} (h : Rel dp F G w v d) (hc : cellsK k g d = some cs) :
    cs.length = (if g then k else 1) ∧ v.cells.size = cs.length ∧ (∀ (j : Nat) (u : Value) (e : D), v.cells[j]? = some u → cs[j]? = some e → Rel dp F G w u e ∧ isCell e = true) := by
  cases g with
  | true =>
    simp only [cellsK] at hc
    split at hc
    · rename_i cs'
      split at hc
      · rename_i hl
        injection hc with hc
        subst hc
        cases h with
        | agg vs ds hl2 h =>
          exact ⟨by simpa using hl.1, hl2, fun j u e hu he => ⟨h j u e hu he, allCell_get hl.2 he⟩⟩
      · cases hc
    · cases hc
  | false =>
    simp only [cellsK] at hc
    split at hc
    · rename_i hd
      injection hc with hc
      subst hc
      obtain ⟨h1, h2⟩ := rel_oneCell h hd
      refine ⟨by simp, by simp [h2], fun j u e hu he => ?_⟩
      cases j with
      | zero =>
        rw [h2] at hu
        simp at hu he
        subst hu he
        exact ⟨h, hd⟩
      | succ j => simp at he
    · cases hc

theorem pur_ext {y : A} {j : Nat} {cs : List D} (hm : mR P dp o.op (.ext y j) = true) (hf : Fr dp F G w a fr) (he : av fr y = .tup cs) (hd : cs[j]? = some d) : Pur P dp F G w a o d := by
  simp only [mR] at hm
  split at hm
  · rename_i x i ho
    simp only [Bool.and_eq_true, beq_iff_eq] at hm
    obtain ⟨rfl, h⟩ := hm
    have hr := hf.eval h
    rw [he] at hr
    generalize hv : a.eval x = v at hr
    cases hr with
    | tup vs ds hl h =>
      have hlt : i < vs.size := by rw [hl]; exact (List.getElem?_eq_some_iff.1 hd).1
      refine ⟨vs[i], ?_, h i vs[i] d (Array.getElem?_eq_getElem hlt) hd⟩
      simp only [execOp, ho, hv, Instr.extract, Array.getElem?_eq_getElem hlt, Sem.run_bind, Sem.run_pure, Result.andThen]
  · cases hm

theorem pur_conv {k k' : IntKind} {y : A} {n : Int} (hm : mR P dp o.op (.conv k y) = true) (hf : Fr dp F G w a fr) (he : av fr y = .i k' n) : Pur P dp F G w a o (.i k (k.wrap n)) := by
  simp only [mR] at hm
  split at hm
  · rename_i s t x ho
    simp only [Bool.and_eq_true] at hm
    obtain ⟨⟨h1, h2⟩, h3⟩ := hm
    have hr := hf.eval h3
    rw [he] at hr
    generalize hv : a.eval x = v at hr
    cases hr
    obtain ⟨ds, hds⟩ := Option.isSome_iff_exists.1 h1
    unfold mU at h2
    split at h2
    · rename_i dt hdt
      dsimp only at h2
      split at h2
      · simp only [decide_eq_true_eq] at h2
        subst h2
        refine ⟨.int k (k.wrap n), ?_, .i _ _⟩
        simp only [execOp, ho, hv, convert, Sem.run_bind, run_underlying hds, run_underlying hdt, Result.andThen, Conv.intToInt, Sem.run_pure]
      · cases h2
    · cases h2
  · cases hm

theorem pur_mkfn {g : Nat} {ys : List A} (hm : mR P dp o.op (.mkfn g ys) = true) (hf : Fr dp F G w a fr) : Pur P dp F G w a o (.fn g (avs fr ys)) := by
  simp only [mR] at hm
  split at hm
  · rename_i f first captured ho
    simp only [Bool.and_eq_true] at hm
    obtain ⟨⟨h1, h2⟩, h3⟩ := hm
    obtain ⟨e1, e2, e3⟩ := hf.evals h3
    unfold mF at h2
    split at h2
    · rename_i x hx
      simp only [beq_iff_eq] at h2
      subst h2
      refine ⟨.func (.func x.real) #[] (captured.map a.eval), ?_, .fn g x hx _ _ (by simp [e2]; simpa using e1) fun j v d hv hd => e3 j v d (by simpa using hv) hd⟩
      have hfi : first.map a.eval = #[] := by
        have : first = #[] := by simpa using h1
        simp [this]
      simp only [execOp, ho, Instr.makeFunc, hfi, Sem.run_bind, Sem.run_pure, Result.andThen]
    · cases h2
  · cases hm

theorem pur_un {op : UnOp} {y : A} (hm : mR P dp o.op (.un op y) = true) (hf : Fr dp F G w a fr) (he : unD op (av fr y) = some d) : Pur P dp F G w a o d := by
  simp only [mR] at hm
  split at hm
  · rename_i op' t x ho
    simp only [Bool.and_eq_true, decide_eq_true_eq] at hm
    obtain ⟨rfl, h⟩ := hm
    have hr := hf.eval h
    unfold unD at he
    split at he
    · rename_i z heq
      rw [heq] at hr
      generalize hv : a.eval x = v at hr
      cases hr
      injection he with he
      subst he
      exact ⟨.bool (!z), by simp only [execOp, ho, hv, Op.unary, Sem.run_bind, Sem.run_pure, Result.andThen], .b _⟩
    · rename_i k n heq
      rw [heq] at hr
      generalize hv : a.eval x = v at hr
      cases hr
      injection he with he
      subst he
      exact ⟨.int k (k.wrap (0 - n)), by simp only [execOp, ho, hv, Op.unary, Op.intArith, Sem.run_bind, Sem.run_pure, Result.andThen], .i _ _⟩
    · rename_i k n heq
      rw [heq] at hr
      generalize hv : a.eval x = v at hr
      cases hr
      simp only [intOp] at he
      injection he with he
      subst he
      exact ⟨_, by simp only [execOp, ho, hv, Op.unary, Op.intBits, Sem.run_bind, Sem.run_pure, Result.andThen], .i _ _⟩
    · cases he
  · cases hm

theorem pur_mx {y z : A} {k : IntKind} {m n : Int} (hm : mR P dp o.op (.mx y z) = true) (hf : Fr dp F G w a fr) (h1 : av fr y = .i k m) (h2 : av fr z = .i k n) :
    Pur P dp F G w a o (.i k (if n > m then n else m)) := by
  simp only [mR] at hm
  split at hm
  · rename_i c ho
    simp only [Bool.and_eq_true] at hm
    obtain ⟨hb, hargs⟩ := hm
    split at hb
    · rename_i hcal
      obtain ⟨e1, e2, e3⟩ := hf.evals hargs
      have hl : c.args.toList.length = 2 := by rw [e1]; rfl
      match hx : c.args.toList, hl with
      | [x1, x2], _ =>
        rw [hx] at hargs
        simp only [mAs, Bool.and_eq_true] at hargs
        have r1 := hf.eval hargs.1
        have r2 := hf.eval hargs.2.1
        rw [h1] at r1; rw [h2] at r2
        generalize hv1 : a.eval x1 = v1 at r1
        generalize hv2 : a.eval x2 = v2 at r2
        cases r1; cases r2
        have hargs' : (c.args.map a.eval).toList = [.int k m, .int k n] := by simp [hx, hv1, hv2]
        refine ⟨.int k (if n > m then n else m), ?_, .i _ _⟩
        simp only [execOp, ho, resolve, hcal, Sem.run_bind, Sem.run_pure, Result.andThen, invoke, builtin, Builtin.max_, hargs', List.foldlM_cons, List.foldlM_nil, Builtin.max2]
    · cases hb
  · cases hm

theorem pur_mn {y z : A} {k : IntKind} {m n : Int} (hm : mR P dp o.op (.mn y z) = true) (hf : Fr dp F G w a fr) (h1 : av fr y = .i k m) (h2 : av fr z = .i k n) :
    Pur P dp F G w a o (.i k (if n < m then n else m)) := by
  simp only [mR] at hm
  split at hm
  · rename_i c ho
    simp only [Bool.and_eq_true] at hm
    obtain ⟨hb, hargs⟩ := hm
    split at hb
    · rename_i hcal
      obtain ⟨e1, e2, e3⟩ := hf.evals hargs
      have hl : c.args.toList.length = 2 := by rw [e1]; rfl
      match hx : c.args.toList, hl with
      | [x1, x2], _ =>
        rw [hx] at hargs
        simp only [mAs, Bool.and_eq_true] at hargs
        have r1 := hf.eval hargs.1
        have r2 := hf.eval hargs.2.1
        rw [h1] at r1; rw [h2] at r2
        generalize hv1 : a.eval x1 = v1 at r1
        generalize hv2 : a.eval x2 = v2 at r2
        cases r1; cases r2
        have hargs' : (c.args.map a.eval).toList = [.int k m, .int k n] := by simp [hx, hv1, hv2]
        refine ⟨.int k (if n < m then n else m), ?_, .i _ _⟩
        simp only [execOp, ho, resolve, hcal, Sem.run_bind, Sem.run_pure, Result.andThen, invoke, builtin, Builtin.min_, hargs', List.foldlM_cons, List.foldlM_nil, Builtin.min2]
    · cases hb
  · cases hm

theorem pur_len {str : Bool} {y : A} {n : Nat} (hm : mR P dp o.op (.len str y) = true) (hf : Fr dp F G w a fr)
    (he : (match str, av fr y with | false, .sl _ _ xs _ => some xs.length | false, .ar _ _ _ n => some n | true, .s l => some l.length | _, _ => none) = some n) : Pur P dp F G w a o (.i .i64 n) := by
  simp only [mR] at hm
  split at hm
  · rename_i c ho
    simp only [Bool.and_eq_true] at hm
    obtain ⟨⟨hb, ht⟩, hargs⟩ := hm
    split at hb
    · rename_i hcal
      split at ht
      · rename_i t ts hts
        have hat : c.argTypes[0]? = some t := by
          rw [← Array.getElem?_toList, hts]; rfl
        obtain ⟨e1, e2, e3⟩ := hf.evals hargs
        have hl : c.args.toList.length = 1 := by rw [e1]; rfl
        match hx : c.args.toList, hl with
        | [x1], _ =>
          rw [hx] at hargs
          simp only [mAs, Bool.and_eq_true] at hargs
          have r1 := hf.eval hargs.1
          have ha0 : (c.args.map a.eval)[0]? = some (a.eval x1) := by
            rw [← Array.getElem?_toList]; simp [hx]
          unfold mU at ht
          split at ht
          · rename_i td htd
            dsimp only at ht
            refine ⟨goInt n, ?_, by exact .i _ _⟩
            simp only [execOp, ho, resolve, hcal, Sem.run_bind, Sem.run_pure, Result.andThen, invoke, builtin, Builtin.len_, hat, ha0, run_underlying htd]
            generalize a.eval x1 = v at r1
            generalize av fr y = e at r1 he
            split at ht
            · cases str
              · cases r1 <;> simp at he <;> subst he <;> rfl
              · simp at ht
            · cases str
              · simp at ht
              · cases r1 <;> simp at he <;> subst he <;> rfl
            · cases ht
          · cases ht
      · cases ht
    · cases hb
  · cases hm

end

end Go.Proofs.YtjniafcnjbbomaaGreatDoor.DE

namespace Go.Proofs.YtjniafcnjbbomaaGreatDoor.DE
open Go

theorem addr_add (b o n : Nat) : (⟨b, o, none⟩ : Addr).add n = ⟨b, o + n, none⟩ := by
  unfold Addr.add
  split
  · rename_i h; subst h; rfl
  · rfl

theorem run_sizeOf_of {P : Program} {t : TypeId} {k : Nat} (h : mSz P t k = true) (w : World) : (sizeOf t).run P w = .ok k w := by
  unfold mSz at h
  split at h
  · rename_i i hi
    simp only [beq_iff_eq] at h
    subst h
    simp only [sizeOf, typeInfo, Sem.run_bind, run_program, Result.andThen, hi, Sem.run_pure]
  · cases h

theorem mT_sz {P : Program} {t : TypeId} {k : Nat} {g : Bool} (h : mT P t k g = true) : mSz P t k = true := by
  unfold mT at h
  simp only [Bool.and_eq_true] at h
  exact h.1

theorem run_isAgg_of {P : Program} {t : TypeId} {k : Nat} {g : Bool} (h : mT P t k g = true) (w : World) : (isAgg t).run P w = .ok g w ∧ (g = false → k = 1) := by
  unfold mT at h
  simp only [Bool.and_eq_true] at h
  obtain ⟨_, h⟩ := h
  split at h
  · rename_i fs hd
    subst h
    exact ⟨by simp only [isAgg, Sem.run_bind, run_underlying hd, Result.andThen, Sem.run_pure], by simp⟩
  · rename_i fs n hd
    subst h
    exact ⟨by simp only [isAgg, Sem.run_bind, run_underlying hd, Result.andThen, Sem.run_pure], by simp⟩
  · rename_i d h1 h2 hd
    simp only [Bool.and_eq_true, Bool.not_eq_true', beq_iff_eq] at h
    obtain ⟨rfl, rfl⟩ := h
    refine ⟨?_, fun _ => rfl⟩
    simp only [isAgg, Sem.run_bind, run_underlying hd, Result.andThen]
    cases d <;> first | rfl | (exfalso; first | exact h1 _ rfl | exact h2 _ _ rfl)
  · cases h

section
variable {P : Program} {dp : Nat → Option Fn} {F F' : Fix} {G G' : List Gh} {w w' : World} {S S' : Store} {a : Act} {fr : List D} {o : Oper} {d : D}

theorem pur_fa {y : A} {off : Nat} (hm : mR P dp o.op (.fa off y) = true) (hf : Fr dp F G w a fr)
    (he : (match av fr y with | .bx id p => some (D.bx id (p + off)) | .el cs p => some (.el cs (p + off)) | _ => none) = some d) : Pur P dp F G w a o d := by
  simp only [mR] at hm
  split at hm
  · rename_i t x j ho
    simp only [Bool.and_eq_true] at hm
    obtain ⟨h1, h2⟩ := hm
    have hr := hf.eval h2
    split at h1
    · rename_i fs hu
      split at h1
      · rename_i f hfj
        simp only [Bool.and_eq_true, beq_iff_eq] at h1
        obtain ⟨rfl, h3⟩ := h1
        split at h3
        · rename_i i hi
          have hne : i.size ≠ 0 := by simpa using h3
          have hsz : (sizeOf f.type).run P w = .ok i.size w := run_sizeOf_of (by simp [mSz, hi]) w
          have run : ∀ b p, a.eval x = .pointer (some ⟨b, p, none⟩) → (execOp a.eval o).run P w = .ok (.value (.pointer (some ⟨b, p + f.offset, none⟩))) w := by
            intro b p hv
            simp only [execOp, ho, hv, Instr.fieldAt, Instr.sureAddr, fieldPlace, Sem.run_bind, run_underlying hu, hfj, Sem.run_pure, Result.andThen, hsz, if_neg hne, addr_add]
          generalize hv : a.eval x = v at hr run
          generalize av fr y = e at hr he
          cases hr <;> simp at he
          · rename_i id p g hg
            subst he
            exact ⟨_, run _ _ rfl, .bx _ _ _ hg⟩
          · rename_i cs blk base p c h1 h2
            subst he
            exact ⟨_, run _ _ rfl, by rw [Nat.add_assoc]; exact .el cs blk base _ c h1 h2⟩
        · cases h3
      · cases h1
    · cases h1
  · cases hm

theorem rd_rel {cs : List D} {k off : Nat} {g : Bool} {t : TypeId} {blk base : Nat} {c : Nat → Value} (hT : mT P t k g = true)
    (hc : ∀ (m : Nat) (e : D), cs[m]? = some e → w.cell? ⟨blk, base + m, none⟩ = some (c m) ∧ Rel dp F G w (c m) e) (hd : rdK cs off k g = some d) :
    ∃ v, (loadVar t ⟨blk, base + off, none⟩).run P w = .ok v w ∧ Rel dp F G w v d := by
  obtain ⟨ha, hk⟩ := run_isAgg_of hT w
  unfold rdK at hd
  cases g with
  | true =>
    simp only [if_true] at hd
    split at hd
    · rename_i hle
      injection hd with hd
      subst hd
      have hl : ∀ j, j < k → w.cell? ((⟨blk, base + off, none⟩ : Addr).add j) = some (c (off + j)) := by
        intro j hj
        have hlt : off + j < cs.length := by omega
        rw [addr_add, Nat.add_assoc]
        exact (hc (off + j) cs[off + j] (List.getElem?_eq_getElem hlt)).1
      refine ⟨_, by simp only [loadVar, Sem.run_bind, ha, Result.andThen, if_true, run_sizeOf_of (mT_sz hT) w, run_loadCells w _ k (fun j => c (off + j)) hl, Sem.run_pure]; rfl, .agg _ _ (by simp; omega) fun j v e hv he => ?_⟩
      have hj : j < k := by
        have := (Array.getElem?_eq_some_iff.1 hv).1
        simpa using this
      simp [hj] at hv
      subst hv
      rw [List.getElem?_take_of_lt hj, List.getElem?_drop] at he
      exact (hc (off + j) e he).2
    · cases hd
  | false =>
    simp at hd
    obtain ⟨h1, h2⟩ := hc off d hd
    exact ⟨c off, by simp only [loadVar, Sem.run_bind, ha, Result.andThen, Bool.false_eq_true, if_false, run_load, h1], h2⟩

theorem cell_box {b m : Nat} {vs : Array Value} {T : TypeId} {z : Nat × Nat} (h : w.heap[b]? = some (.cells vs T z)) : w.cell? ⟨b, m, none⟩ = vs[m]? := by
  simp [World.cell?, h]

theorem pur_ld {y : A} {k : Nat} {g : Bool} (hm : mR P dp o.op (.ld k g y) = true) (hs : Sim dp F G w S) (hf : Fr dp F G w a fr) (he : ldD S k g (av fr y) = some d) : Pur P dp F G w a o d := by
  simp only [mR] at hm
  split at hm
  · rename_i t x ho
    simp only [Bool.and_eq_true] at hm
    obtain ⟨hT, h2⟩ := hm
    have hr := hf.eval h2
    have run : ∀ ad v, a.eval x = .pointer (some ad) → (loadVar t ad).run P w = .ok v w → (execOp a.eval o).run P w = .ok (.value v) w := by
      intro ad v hv hl
      simp only [execOp, ho, hv, Instr.loadAt, Instr.sureAddr, Sem.run_bind, Sem.run_pure, Result.andThen, hl]
    generalize hv : a.eval x = v at hr run
    generalize av fr y = e at hr he
    cases hr <;> simp only [ldD] at he <;> try (cases he; done)
    · rename_i id p gh hg
      split at he
      · rename_i cs hsg
        obtain ⟨vs, T, hh, ⟨hl, _⟩, _, _, hc⟩ := hs.ent id _ gh hsg hg
        have := rd_rel (P := P) (dp := dp) (F := F) (G := G) (w := w) (cs := cs) (k := k) (off := p) (g := g) (t := t) (blk := gh.blk) (base := 0) (c := fun m => vs.getD m undef) hT (fun m e hme => by
          have hlt : m < vs.size := Nat.lt_of_lt_of_le (List.getElem?_eq_some_iff.1 hme).1 hl
          have e1 : vs[m]? = some (vs.getD m undef) := by simp [Array.getD, hlt]
          exact ⟨by rw [Nat.zero_add, cell_box hh, e1], hc m _ e e1 hme⟩) he
        rw [Nat.zero_add] at this
        obtain ⟨u, hu, hru⟩ := this
        exact ⟨u, run _ u rfl hu, hru⟩
      · cases he
    · rename_i cs blk base p c h1 h2
      obtain ⟨u, hu, hru⟩ := rd_rel (P := P) hT (fun m e hme => ⟨(h1 m e hme).2, h2 m e hme⟩) he
      exact ⟨u, run _ u rfl hu, hru⟩
  · cases hm

theorem pur_fld {y : A} {off k : Nat} {g : Bool} {cs : List D} (hm : mR P dp o.op (.fld off k g y) = true) (hf : Fr dp F G w a fr) (h1 : av fr y = .agg cs) (he : rdK cs off k g = some d) : Pur P dp F G w a o d := by
  simp only [mR] at hm
  split at hm
  · rename_i t x j ho
    simp only [Bool.and_eq_true] at hm
    obtain ⟨h2, h3⟩ := hm
    have hr := hf.eval h3
    rw [h1] at hr
    split at h2
    · rename_i fs hu
      split at h2
      · rename_i f hfj
        simp only [Bool.and_eq_true, beq_iff_eq] at h2
        obtain ⟨rfl, hT⟩ := h2
        obtain ⟨hag, hk⟩ := run_isAgg_of hT w
        generalize hv : a.eval x = v at hr
        cases hr with
        | agg vs ds hl h =>
          unfold rdK at he
          cases g with
          | true =>
            simp only [if_true] at he
            split at he
            · rename_i hle
              injection he with he
              subst he
              refine ⟨.agg (vs.extract f.offset (f.offset + k)), ?_, .agg _ _ (by simp; omega) fun j v e hv2 he => ?_⟩
              · simp only [execOp, ho, hv, Instr.field, Sem.run_bind, run_underlying hu, hfj, asAgg, Sem.run_pure, Result.andThen, part, hag, if_true, run_sizeOf_of (mT_sz hT) w]
              · rw [Array.getElem?_extract] at hv2
                split at hv2
                · rename_i hj
                  have hjk : j < k := by omega
                  rw [List.getElem?_take_of_lt hjk, List.getElem?_drop] at he
                  exact h _ v e hv2 he
                · cases hv2
            · cases he
          | false =>
            simp at he
            have hlt : f.offset < vs.size := by rw [hl]; exact (List.getElem?_eq_some_iff.1 he).1
            refine ⟨vs[f.offset], ?_, h f.offset _ d (Array.getElem?_eq_getElem hlt) he⟩
            simp only [execOp, ho, hv, Instr.field, Sem.run_bind, run_underlying hu, hfj, asAgg, Sem.run_pure, Result.andThen, part, hag, Bool.false_eq_true, if_false, Array.getElem?_eq_getElem hlt]
      · cases h2
    · cases h2
  · cases hm

theorem pur_ia {y i : A} {k : Nat} (hm : mR P dp o.op (.ia k y i) = true) (hf : Fr dp F G w a fr) (he : iaD k (av fr y) (av fr i) = some d) : Pur P dp F G w a o d := by
  simp only [mR] at hm
  split at hm
  · rename_i t x ix ho
    simp only [Bool.and_eq_true] at hm
    obtain ⟨⟨hU, hx⟩, hi⟩ := hm
    have hr := hf.eval hx
    have hri := hf.eval hi
    unfold mU at hU
    split at hU
    · rename_i td htd
      unfold isSliceOf at hU
      split at hU
      · rename_i el
        have run : ∀ b p len cap kk n, a.eval x = .slice (some ⟨b, p, none⟩) len cap → a.eval ix = .int kk n → 0 ≤ n → n < len → (execOp a.eval o).run P w = .ok (.value (.pointer (some ⟨b, p + n.toNat * k, none⟩))) w := by
          intro b p len cap kk n hv hvi h0 h1
          simp only [execOp, ho, hv, hvi, Instr.indexAt, asIntOf, Sem.run_bind, Sem.run_pure, run_underlying htd, Result.andThen, if_pos (And.intro h0 h1), run_sizeOf_of hU w, addr_add]
        generalize hvx : a.eval x = v at hr run
        generalize hvi : a.eval ix = u at hri run
        generalize av fr y = e at hr he
        generalize av fr i = e' at hri he
        unfold iaD at he
        split at he
        · rename_i k' nl xs ow kk n
          split at he
          · rename_i hc
            obtain ⟨h0, rfl⟩ := hc
            cases hri
            cases hxs : xs[n.toNat]? with
            | none => simp [hxs] at he
            | some cs =>
              simp only [hxs, Option.map_some, Option.some.injEq] at he
              subst he
              have hlt := (List.getElem?_eq_some_iff.1 hxs).1
              cases hr with
              | nil => simp at hlt
              | emp => simp at hlt
              | sl k xs o blk off cap c hk hcap h1 h2 hown =>
                refine ⟨_, run blk off xs.length cap kk n rfl rfl h0 (by omega), ?_⟩
                exact .el cs blk (off + n.toNat * k') 0 (c n.toNat) (fun m e hme => ⟨(h1 _ cs m e hxs hme).1, (h1 _ cs m e hxs hme).2.1⟩) (fun m e hme => h2 _ cs m e hxs hme)
          · cases he
        · rename_i k' id oo m kk n
          split at he
          · rename_i hc
            obtain ⟨h0, h1, rfl⟩ := hc
            injection he with he
            subst he
            cases hri
            cases hr with
            | ar k id o n cap g hg hn => exact ⟨_, run g.blk oo m cap kk _ rfl rfl h0 h1, .bx _ _ g hg⟩
          · cases he
        · cases he
      · cases hU
    · cases hU
  · cases hm

theorem pur_iaa {y i : A} {n k id off : Nat} {kk : IntKind} {m : Int} (hm : mR P dp o.op (.iaa n k y i) = true) (hf : Fr dp F G w a fr) (h1 : av fr y = .bx id off) (h2 : av fr i = .i kk m)
    (h0 : 0 ≤ m) (hlt : m < n) : Pur P dp F G w a o (.bx id (off + m.toNat * k)) := by
  simp only [mR] at hm
  split at hm
  · rename_i t x ix ho
    simp only [Bool.and_eq_true] at hm
    obtain ⟨⟨hU, hx⟩, hi⟩ := hm
    have hr := hf.eval hx
    have hri := hf.eval hi
    rw [h1] at hr
    rw [h2] at hri
    unfold mU at hU
    split at hU
    · rename_i td htd
      dsimp only at hU
      split at hU
      · rename_i mm el
        simp only [Bool.and_eq_true, beq_iff_eq] at hU
        obtain ⟨rfl, hsz⟩ := hU
        generalize hvx : a.eval x = v at hr
        generalize hvi : a.eval ix = u at hri
        cases hr with
        | bx id o g hg =>
          cases hri
          refine ⟨.pointer (some ⟨g.blk, off + m.toNat * k, none⟩), ?_, .bx _ _ g hg⟩
          simp only [execOp, ho, hvx, hvi, Instr.indexAt, Instr.sureAddr, asIntOf, Sem.run_bind, Sem.run_pure, run_underlying htd, Result.andThen, if_pos (And.intro h0 hlt), run_sizeOf_of hsz w, addr_add]
      · cases hU
    · cases hU
  · cases hm

theorem pur_ixs {y i : A} {l : List UInt8} {kk : IntKind} {m : Int} {c : UInt8} (hm : mR P dp o.op (.ixs y i) = true) (hf : Fr dp F G w a fr) (h1 : av fr y = .s l) (h2 : av fr i = .i kk m)
    (h0 : 0 ≤ m) (hc : l[m.toNat]? = some c) : Pur P dp F G w a o (.i .u8 c.toNat) := by
  simp only [mR] at hm
  split at hm
  · rename_i t x ix ho
    simp only [Bool.and_eq_true] at hm
    obtain ⟨⟨hU, hx⟩, hi⟩ := hm
    have hr := hf.eval hx
    have hri := hf.eval hi
    rw [h1] at hr
    rw [h2] at hri
    unfold mU at hU
    split at hU
    · rename_i td htd
      unfold isString at hU
      split at hU
      · generalize hvx : a.eval x = v at hr
        generalize hvi : a.eval ix = u at hri
        cases hr
        cases hri
        have hb : (⟨l.toArray⟩ : ByteArray)[m.toNat]? = some c := by
          have hlt := (List.getElem?_eq_some_iff.1 hc).1
          rw [getElem?_pos (⟨l.toArray⟩ : ByteArray) m.toNat (by show m.toNat < l.toArray.size; simpa using hlt)]
          rw [List.getElem?_eq_getElem hlt] at hc
          injection hc with hc
          rw [← hc]
          rfl
        refine ⟨.int .u8 c.toNat, ?_, .i _ _⟩
        simp only [execOp, ho, hvx, hvi, Instr.index, asIntOf, Sem.run_bind, Sem.run_pure, run_underlying htd, Result.andThen, if_pos h0, hb]
      · cases hU
    · cases hU
  · cases hm

end

end Go.Proofs.YtjniafcnjbbomaaGreatDoor.DE

namespace Go.Proofs.YtjniafcnjbbomaaGreatDoor.DE
open Go

section
variable (P : Program) (dp : Nat → Option Fn)

def mGd (ops : List Oper) : Option (Nat × Bool) → Option (Nat × Bool) → Bool
  | none, none => true
  | some (j, x), some (t, y) => x == y && (match ops[j]? with | some o => (match o.dst with | some u => u == t | none => false) | none => false)
  | _, _ => false

def mDst : Option Nat → Option Nat → Bool
  | none, none => true
  | some a, some b => a == b
  | _, _ => false

/-- The item stands for the operation. -/
def mI (ops : List Oper) (o : Oper) : I → Bool
  | .op dst gd r => mDst o.dst dst && mGd ops o.guard gd && mR P dp o.op r
  | _ => false

def mReg (ops : List Oper) : List Oper → List I → Bool
  | [], [] => true
  | l, .fz _ :: is => mReg ops l is
  | o :: l, i :: is => mI P dp ops o i && mReg ops l is
  | _, _ => false

end

/-! ### Regions that draw their order -/

inductive Kd where
  | p | r | x

/-- What an operation has to do with the store: nothing (p), it reads (r), it may change it (x). -/
def kdR : R → Kd
  | .ld _ _ _ => .r
  | .lk _ _ _ _ _ => .r
  | .alloc _ => .x
  | .box _ _ _ => .x
  | .bsl _ _ own xs => if own && !xs.isEmpty then .x else .p
  | .bsa _ _ _ => .x
  | .st _ _ _ _ => .x
  | .mkmap => .x
  | .mksl _ _ _ _ => .x
  | .mu _ _ _ _ => .x
  | .ment _ _ _ _ => .x
  | .est _ _ _ => .x
  | .app _ _ _ _ => .x
  | .clr _ _ _ => .x
  | .call _ iso _ => if iso then .p else .x
  | .calld _ iso _ => if iso then .p else .x
  | _ => .p

def kdI : I → Kd
  | .op _ _ r => kdR r
  | _ => .x

def usA : A → List Nat
  | .t n => [n]
  | .c _ => []

def usAo : Option A → List Nat
  | some x => usA x
  | none => []

def usAs : List A → List Nat
  | [] => []
  | x :: l => usA x ++ usAs l

def usPs : List (Nat × Nat × Bool × A) → List Nat
  | [] => []
  | (_, _, _, x) :: l => usA x ++ usPs l

def usR : R → List Nat
  | .mv x => usA x
  | .nilck x => usA x
  | .pick c a b => usA c ++ (usA a ++ usA b)
  | .alloc _ => []
  | .box _ _ x => usA x
  | .bld _ ps => usPs ps
  | .bsl _ _ _ xs => usAs xs
  | .bsa _ _ xs => usAs xs
  | .ld _ _ a => usA a
  | .st _ _ a v => usA a ++ usA v
  | .bin _ _ x y => usA x ++ usA y
  | .un _ x => usA x
  | .conv _ x => usA x
  | .mkfn _ cs => usAs cs
  | .mkmap => []
  | .mksl _ _ _ n => usA n
  | .slc _ x lo hi => usA x ++ (usAo lo ++ usAo hi)
  | .slcs x lo hi => usA x ++ (usAo lo ++ usAo hi)
  | .fa _ x => usA x
  | .fld _ _ _ x => usA x
  | .ia _ x i => usA x ++ usA i
  | .iaa _ _ x i => usA x ++ usA i
  | .ixs x i => usA x ++ usA i
  | .lk _ _ _ m key => usA m ++ usA key
  | .mu _ m key v => usA m ++ (usA key ++ usA v)
  | .ment _ _ m key => usA m ++ usA key
  | .est m j v => usA m ++ (usA j ++ usA v)
  | .ext x _ => usA x
  | .len _ x => usA x
  | .app _ _ x y => usA x ++ usA y
  | .mx x y => usA x ++ usA y
  | .mn x y => usA x ++ usA y
  | .clr _ _ x => usA x
  | .call _ _ args => usAs args
  | .calld f _ args => usA f ++ usAs args
  | .cmps x y => usA x ++ usA y

def usG : Option (Nat × Bool) → List Nat
  | some (t, _) => [t]
  | none => []

/-- The edges that bind in every order: on each operation, those that must stand before it, as a number's bits. -/
def befores (ops : List Oper) : List Nat → List Nat
  | acc => match ops with
    | [] => acc
    | o :: l => befores l (acc ++ [o.after.toList.foldl (fun s e => if Region.binds .any e then s ||| 2 ^ e.on ||| acc.getD e.on 0 else s) 0])

end Go.Proofs.YtjniafcnjbbomaaGreatDoor.DE

namespace Go.Proofs.YtjniafcnjbbomaaGreatDoor.DE
open Go

section
variable {P : Program} {dp : Nat → Option Fn} {F F' : Fix} {G G' : List Gh} {w w' : World} {S S' : Store} {a : Act} {fr : List D} {o : Oper} {d : D}

theorem Fr.evalo {a : Act} {fr : List D} (h : Fr dp F G w a fr) {x : Option Operand} {y : Option A} (hm : mAo dp x y = true) :
    (x = none ∧ avo fr y = none) ∨ ∃ u v, x.map a.eval = some u ∧ avo fr y = some v ∧ Rel dp F G w u v := by
  unfold mAo at hm
  split at hm
  · exact .inl ⟨rfl, rfl⟩
  · exact .inr ⟨_, _, rfl, rfl, h.eval hm⟩
  · cases hm

theorem run_bounds {isS : Bool} {n cap l h : Nat} {lo hi : Option D} {x y : Option Value} (hb : bounds n lo hi = some (l, h)) (hn : n ≤ cap)
    (hx : (x = none ∧ lo = none) ∨ ∃ u v, x = some u ∧ lo = some v ∧ Rel dp F G w u v) (hy : (y = none ∧ hi = none) ∨ ∃ u v, y = some u ∧ hi = some v ∧ Rel dp F G w u v) :
    (Instr.sliceBounds isS n cap x y none).run P w = .ok (l, h, cap) w ∧ l ≤ h ∧ h ≤ n := by
  have sb : ∀ (code : BoundsCode) (k : IntKind) (i : Int) (m : Nat), 0 ≤ i → i ≤ m → (Instr.sliceBound (.int k i) m code).run P w = .ok i.toNat w := by
    intro code k i m h0 h1
    simp only [Instr.sliceBound, asIntOf, Sem.run_bind, Sem.run_pure, Result.andThen, if_pos (And.intro h0 h1)]
  rcases hy with ⟨rfl, rfl⟩ | ⟨u, v, rfl, rfl, hru⟩
  · rcases hx with ⟨rfl, rfl⟩ | ⟨u', v', rfl, rfl, hru'⟩
    · simp only [bounds] at hb
      injection hb with hb
      injection hb with h1 h2
      subst h1 h2
      exact ⟨by simp [Instr.sliceBounds], by omega, by omega⟩
    · cases hru' <;> simp only [bounds] at hb <;> try (cases hb; done)
      rename_i k i
      split at hb
      · rename_i hc
        injection hb with hb
        injection hb with h1 h2
        subst h1 h2
        refine ⟨?_, by omega, by omega⟩
        simp only [Instr.sliceBounds, Sem.run_bind, Sem.run_pure, Result.andThen, Option.isSome_none, Bool.false_eq_true, if_false, sb _ _ _ _ hc.1 hc.2]
      · cases hb
  · cases hru <;> simp only [bounds] at hb <;> try (cases hb; done)
    rename_i k i
    split at hb
    · rename_i hc
      rcases hx with ⟨rfl, rfl⟩ | ⟨u', v', rfl, rfl, hru'⟩
      · injection hb with hb
        injection hb with h1 h2
        subst h1 h2
        refine ⟨?_, by omega, by omega⟩
        cases isS <;> simp [Instr.sliceBounds, sb _ _ _ _ hc.1 (show i ≤ (cap : Int) by omega)]
      · cases hru' <;> simp only at hb <;> try (cases hb; done)
        rename_i k' i'
        split at hb
        · rename_i hc'
          injection hb with hb
          injection hb with h1 h2
          subst h1 h2
          refine ⟨?_, by omega, by omega⟩
          cases isS <;> simp [Instr.sliceBounds, sb _ _ _ _ hc.1 (show i ≤ (cap : Int) by omega), sb _ _ _ _ hc'.1 (show i' ≤ (i.toNat : Int) by omega)]
        · cases hb
    · cases hb

theorem bounds_hyp {a : Act} {fr : List D} (hf : Fr dp F G w a fr) {x : Option Operand} {y : Option A} (hm : mAo dp x y = true) :
    (x.map a.eval = none ∧ avo fr y = none) ∨ ∃ u v, x.map a.eval = some u ∧ avo fr y = some v ∧ Rel dp F G w u v := by
  rcases hf.evalo hm with ⟨rfl, e⟩ | e
  · exact .inl ⟨rfl, e⟩
  · exact .inr e

theorem pur_slc {y : A} {lo hi : Option A} {k : Nat} (hm : mR P dp o.op (.slc k y lo hi) = true) (hf : Fr dp F G w a fr) (he : slcD k (av fr y) (avo fr lo) (avo fr hi) = some d) : Pur P dp F G w a o d := by
  simp only [mR] at hm
  split at hm
  · rename_i t x l h ho
    simp only [Bool.and_eq_true] at hm
    obtain ⟨⟨⟨hU, hx⟩, hl⟩, hh⟩ := hm
    have hr := hf.eval hx
    have hlo' := bounds_hyp hf hl
    have hhi' := bounds_hyp hf hh
    generalize hv : a.eval x = v at hr
    generalize av fr y = e at hr he
    unfold mU at hU
    split at hU
    · rename_i td htd
      unfold isSliceOf at hU
      split at hU
      · rename_i el
        unfold slcD at he
        split at he
        · rename_i k' nl xs ow
          split at he
          · rename_i hk
            subst hk
            split at he
            · rename_i p q hb
              injection he with he
              subst he
              cases hr with
              | nil =>
                obtain ⟨e1, e2, e3⟩ := run_bounds (P := P) (isS := true) (cap := 0) hb (Nat.le_refl _) hlo' hhi'
                simp only [List.length_nil] at e1 e3
                obtain rfl : q = 0 := by omega
                obtain rfl : p = 0 := by omega
                refine ⟨.slice none 0 0, ?_, by simpa using Rel.nil (dp := dp) (F := F) (G := G) (w := w) k' .ro⟩
                simp only [execOp, ho, hv, Instr.sliceAt, Sem.run_bind, run_underlying htd, Result.andThen, Instr.slice, Option.map_none, e1, run_sizeOf_of hU w, Sem.run_pure, if_true, Nat.sub_self]
              | emp k ad cap =>
                obtain ⟨e1, e2, e3⟩ := run_bounds (P := P) (isS := true) (cap := cap) hb (Nat.zero_le _) hlo' hhi'
                simp only [List.length_nil] at e1 e3
                obtain rfl : q = 0 := by omega
                obtain rfl : p = 0 := by omega
                refine ⟨.slice (some (if cap = 0 then ad else ad.add 0)) 0 cap, ?_, by simpa using Rel.emp (dp := dp) (F := F) (G := G) (w := w) k' _ cap⟩
                simp only [execOp, ho, hv, Instr.sliceAt, Sem.run_bind, run_underlying htd, Result.andThen, Instr.slice, Option.map_none, e1, run_sizeOf_of hU w, Sem.run_pure, if_true, Nat.sub_self]
                split <;> simp_all [addr_add]
              | sl k xs o blk off cap c hkl hcap h1 h2 hown =>
                obtain ⟨e1, e2, e3⟩ := run_bounds (P := P) (isS := true) hb hcap hlo' hhi'
                have hlen : ((xs.drop p).take (q - p)).length = q - p := by simp; omega
                have hget : ∀ (j : Nat) (z : List D), ((xs.drop p).take (q - p))[j]? = some z → xs[p + j]? = some z := by
                  intro j z hz
                  have hj := (List.getElem?_eq_some_iff.1 hz).1
                  rw [hlen] at hj
                  rwa [List.getElem?_take_of_lt hj, List.getElem?_drop] at hz
                refine ⟨.slice (some ⟨blk, if cap = p then off else off + p * k', none⟩) (q - p) (cap - p), ?_, ?_⟩
                · simp only [execOp, ho, hv, Instr.sliceAt, Sem.run_bind, run_underlying htd, Result.andThen, Instr.slice, Option.map_none, e1, run_sizeOf_of hU w, Sem.run_pure]
                  split
                  · rfl
                  · simp [addr_add]
                · have := Rel.sl (dp := dp) (F := F) (G := G) (w := w) k' ((xs.drop p).take (q - p)) .ro blk (if cap = p then off else off + p * k') (cap - p) (fun j m => c (p + j) m)
                    (fun z hz => hkl z (List.mem_of_mem_drop (List.mem_of_mem_take hz))) (by rw [hlen]; omega)
                    (fun j z m e hz hme => by
                      have hj := (List.getElem?_eq_some_iff.1 hz).1
                      rw [hlen] at hj
                      have := h1 (p + j) z m e (hget j z hz) hme
                      rw [if_neg (by omega), show off + p * k' + j * k' + m = off + (p + j) * k' + m by rw [Nat.add_mul]; omega]
                      exact this)
                    (fun j z m e hz hme => h2 (p + j) z m e (hget j z hz) hme) trivial
                  rwa [hlen] at this
            · cases he
          · cases he
        · rename_i k' id oo n
          split at he
          · rename_i hk
            subst hk
            split at he
            · rename_i p q hb
              cases hr with
              | ar k id o n cap g hg hn =>
                obtain ⟨e1, e2, e3⟩ := run_bounds (P := P) (isS := true) hb hn.1 hlo' hhi'
                have run : (execOp a.eval o).run P w = .ok (.value (.slice (some ⟨g.blk, if cap = p then oo else oo + p * k', none⟩) (q - p) (cap - p))) w := by
                  simp only [execOp, ho, hv, Instr.sliceAt, Sem.run_bind, run_underlying htd, Result.andThen, Instr.slice, Option.map_none, e1, run_sizeOf_of hU w, Sem.run_pure]
                  split
                  · rfl
                  · simp [addr_add]
                split at he
                · rename_i hqp
                  subst hqp
                  injection he with he
                  subst he
                  refine ⟨_, run, ?_⟩
                  rw [Nat.sub_self]
                  exact Rel.sl k' [] .ro g.blk _ _ (fun _ _ => undef) (fun z hz => by simp at hz) (Nat.zero_le _) (fun j z m e hz => by simp at hz) (fun j z m e hz => by simp at hz) trivial
                · injection he with he
                  subst he
                  refine ⟨_, run, ?_⟩
                  rw [if_neg (by omega)]
                  have e4 := hn.1
                  have e5 : (cap - p) * k' + p * k' = cap * k' := by rw [← Nat.add_mul]; congr 1; omega
                  exact .ar k' id _ _ _ g hg ⟨by omega, by have := hn.2; omega⟩
            · cases he
          · cases he
        · cases he
      · cases hU
    · cases hU
  · cases hm

theorem pur_slcs {y : A} {lo hi : Option A} (hm : mR P dp o.op (.slcs y lo hi) = true) (hf : Fr dp F G w a fr) (he : slcsD (av fr y) (avo fr lo) (avo fr hi) = some d) : Pur P dp F G w a o d := by
  simp only [mR] at hm
  split at hm
  · rename_i t x l h ho
    simp only [Bool.and_eq_true] at hm
    obtain ⟨⟨⟨hU, hx⟩, hl⟩, hh⟩ := hm
    have hr := hf.eval hx
    have hlo' := bounds_hyp hf hl
    have hhi' := bounds_hyp hf hh
    generalize hv : a.eval x = v at hr
    generalize av fr y = e at hr he
    unfold mU at hU
    split at hU
    · rename_i td htd
      unfold isString at hU
      split at hU
      · unfold slcsD at he
        split at he
        · rename_i l'
          split at he
          · rename_i p q hb
            injection he with he
            subst he
            cases hr
            have hsz : (⟨l'.toArray⟩ : ByteArray).size = l'.length := by show l'.toArray.size = _; simp
            obtain ⟨e1, e2, e3⟩ := run_bounds (P := P) (isS := false) (cap := l'.length) hb (Nat.le_refl _) hlo' hhi'
            have hex : (⟨l'.toArray⟩ : ByteArray).extract p q = ⟨((l'.drop p).take (q - p)).toArray⟩ := by
              apply ByteArray.ext
              rw [ByteArray.data_extract]
              apply Array.ext'
              simp
            refine ⟨.string ⟨((l'.drop p).take (q - p)).toArray⟩, ?_, .s _⟩
            simp only [execOp, ho, hv, Instr.sliceAt, Sem.run_bind, run_underlying htd, Result.andThen, Instr.slice, Option.map_none, Option.isSome_none, Bool.false_eq_true, if_false, hsz, e1, Sem.run_pure, hex]
          · cases he
        · cases he
      · cases hU
    · cases hU
  · cases hm

end

end Go.Proofs.YtjniafcnjbbomaaGreatDoor.DE

namespace Go.Proofs.YtjniafcnjbbomaaGreatDoor.DE
open Go

section
variable {P : Program} {dp : Nat → Option Fn} {F F' : Fix} {G G' : List Gh} {w w' : World} {S S' : Store} {a : Act} {fr : List D} {o : Oper} {d : D}

theorem intOp_run {op : BinOp} {k : IntKind} {x y : Int} (t : TypeId) (h : intOp op k x y = some d) (h1 : op ≠ .shl) (h2 : op ≠ .shr) :
    ∃ v, (binOp op t (.int k x) (.int k y)).run P w = .ok v w ∧ Rel dp F G w v d := by
  have ar : ∀ _ : Sem Value, (op = .add ∨ op = .sub ∨ op = .mul) → (binOp op t (.int k x) (.int k y)).run P w = (Op.intArith op k x y).run P w := by
    rintro _ (rfl | rfl | rfl) <;> simp only [binOp, ne_eq, not_true_eq_false, if_false]
  have dv : (op = .quo ∨ op = .rem) → (binOp op t (.int k x) (.int k y)).run P w = (Op.intDiv op k x y).run P w := by
    rintro (rfl | rfl) <;> simp only [binOp, ne_eq, not_true_eq_false, if_false]
  have bt : (op = .and ∨ op = .or ∨ op = .xor) → (binOp op t (.int k x) (.int k y)).run P w = (Op.intBits op k x y).run P w := by
    rintro (rfl | rfl | rfl) <;> simp only [binOp, ne_eq, not_true_eq_false, if_false]
  have cm : (op = .eql ∨ op = .neq ∨ op = .lss ∨ op = .leq ∨ op = .gtr ∨ op = .geq) → (binOp op t (.int k x) (.int k y)).run P w = (Op.intCmp op x y).run P w := by
    rintro (rfl | rfl | rfl | rfl | rfl | rfl) <;> simp only [binOp, ne_eq, not_true_eq_false, if_false]
  cases op with
  | add => injection h with h; subst h; exact ⟨_, by rw [ar (pure undef) (by simp)]; rfl, .i _ _⟩
  | sub => injection h with h; subst h; exact ⟨_, by rw [ar (pure undef) (by simp)]; rfl, .i _ _⟩
  | mul => injection h with h; subst h; exact ⟨_, by rw [ar (pure undef) (by simp)]; rfl, .i _ _⟩
  | quo =>
    simp only [intOp] at h
    split at h
    · cases h
    · rename_i hy
      injection h with h; subst h
      exact ⟨_, by rw [dv (by simp)]; simp only [Op.intDiv, if_neg hy]; rfl, .i _ _⟩
  | rem =>
    simp only [intOp] at h
    split at h
    · cases h
    · rename_i hy
      injection h with h; subst h
      exact ⟨_, by rw [dv (by simp)]; simp only [Op.intDiv, if_neg hy]; rfl, .i _ _⟩
  | and => injection h with h; subst h; exact ⟨_, by rw [bt (by simp)]; rfl, .i _ _⟩
  | or => injection h with h; subst h; exact ⟨_, by rw [bt (by simp)]; rfl, .i _ _⟩
  | xor => injection h with h; subst h; exact ⟨_, by rw [bt (by simp)]; rfl, .i _ _⟩
  | shl => exact absurd rfl h1
  | shr => exact absurd rfl h2
  | andNot => cases h
  | eql => injection h with h; subst h; exact ⟨_, by rw [cm (by simp)]; rfl, .b _⟩
  | neq => injection h with h; subst h; exact ⟨_, by rw [cm (by simp)]; rfl, .b _⟩
  | lss => injection h with h; subst h; exact ⟨_, by rw [cm (by simp)]; rfl, .b _⟩
  | leq => injection h with h; subst h; exact ⟨_, by rw [cm (by simp)]; rfl, .b _⟩
  | gtr => injection h with h; subst h; exact ⟨_, by rw [cm (by simp)]; rfl, .b _⟩
  | geq => injection h with h; subst h; exact ⟨_, by rw [cm (by simp)]; rfl, .b _⟩

theorem run_equalIn_slice {t el : TypeId} (n : Nat) (hu : P.underlying t = some (.slice el)) (b : Option Addr) (m c : Nat) : (Op.equalIn (n + 1) t (.slice b m c) (.slice none 0 0)).run P w = .ok b.isNone w := by
  simp only [Op.equalIn, Sem.run_bind, run_underlying hu, Result.andThen]
  cases b <;> rfl

theorem run_equalIn_map {t k el : TypeId} (n : Nat) (hu : P.underlying t = some (.map k el)) (b : Option Nat) : (Op.equalIn (n + 1) t (.map b) (.map none)).run P w = .ok b.isNone w := by
  simp only [Op.equalIn, Sem.run_bind, run_underlying hu, Result.andThen]
  cases b <;> rfl

theorem shOp_run {op : BinOp} {k k' : IntKind} {x y : Int} (t : TypeId) (h : shOp op k x y = some d) (h1 : op = .shl ∨ op = .shr) :
    ∃ v, (binOp op t (.int k x) (.int k' y)).run P w = .ok v w ∧ Rel dp F G w v d := by
  unfold shOp at h
  split at h
  · cases h
  · rename_i hy
    rcases h1 with rfl | rfl
    · injection h with h; subst h
      exact ⟨_, by simp only [binOp, Op.shift, if_neg hy, Sem.run_pure], .i _ _⟩
    · injection h with h; subst h
      exact ⟨_, by simp only [binOp, Op.shift, if_neg hy, Sem.run_pure], .i _ _⟩

theorem mSK_i {t : TypeId} (h : mSK P t .i = true) : ∃ k, P.underlying t = some (.int k) := by
  simp only [mSK, mU] at h
  split at h
  · rename_i td htd
    split at h
    · exact ⟨_, htd⟩
    · cases h
  · cases h

theorem mSK_b {t : TypeId} (h : mSK P t .b = true) : P.underlying t = some .bool := by
  simp only [mSK, mU] at h
  split at h
  · rename_i td htd
    split at h
    · exact htd
    · cases h
  · cases h

theorem mSK_s {t : TypeId} (h : mSK P t .s = true) : P.underlying t = some .string := by
  simp only [mSK, mU] at h
  split at h
  · rename_i td htd
    split at h
    · exact htd
    · cases h
  · cases h

theorem run_scal {t : TypeId} {k : SK} {x y : D} {u v : Value} {r : Bool} (n : Nat) (ht : mSK P t k = true) (hx : isSK k x = true) (hy : isSK k y = true) (hs : seq1 x y = some r)
    (hu : Rel dp F G w u x) (hv : Rel dp F G w v y) : (Op.equalIn (n + 1) t u v).run P w = .ok r w := by
  cases k with
  | i =>
    cases hu <;> simp [isSK] at hx
    cases hv <;> simp [isSK] at hy
    obtain ⟨k, htd⟩ := mSK_i ht
    simp only [seq1] at hs
    split at hs
    · rename_i hk
      subst hk
      injection hs with hs
      subst hs
      exact run_equalIn_int w n t _ _ _ _ htd
    · cases hs
  | b =>
    cases hu <;> simp [isSK] at hx
    cases hv <;> simp [isSK] at hy
    simp only [seq1] at hs
    injection hs with hs
    subst hs
    exact run_equalIn_bool' w n t _ _ (mSK_b ht)
  | s =>
    cases hu <;> simp [isSK] at hx
    cases hv <;> simp [isSK] at hy
    simp only [seq1] at hs
    injection hs with hs
    subst hs
    rw [run_equalIn_string w n t _ _ (mSK_s ht)]
    simp [ByteArray.toList_eq]

theorem mSK_part {t : TypeId} {k : SK} {vs : Array Value} {j : Nat} {v : Value} (ht : mSK P t k = true) (hv : vs[j]? = some v) : (part t vs j).run P w = .ok v w := by
  have hag : (isAgg t).run P w = .ok false w := by
    cases k with
    | i =>
      obtain ⟨k, htd⟩ := mSK_i ht
      simp only [isAgg, Sem.run_bind, run_underlying htd, Result.andThen, Sem.run_pure]
    | b => simp only [isAgg, Sem.run_bind, run_underlying (mSK_b ht), Result.andThen, Sem.run_pure]
    | s => simp only [isAgg, Sem.run_bind, run_underlying (mSK_s ht), Result.andThen, Sem.run_pure]
  simp only [part, Sem.run_bind, hag, Result.andThen, Bool.false_eq_true, if_false, hv, Sem.run_pure]

theorem seqL_length : ∀ {ks : List SK} {xs ys : List D} {r : Bool}, seqL ks xs ys = some r → xs.length = ks.length ∧ ys.length = ks.length
  | [], [], [], _, _ => ⟨rfl, rfl⟩
  | [], _ :: _, _, _, h => by simp [seqL] at h
  | [], [], _ :: _, _, h => by simp [seqL] at h
  | _ :: _, [], _, _, h => by simp [seqL] at h
  | _ :: _, _ :: _, [], _, h => by simp [seqL] at h
  | k :: ks, x :: l, y :: m, r, h => by
    simp only [seqL] at h
    split at h
    · split at h
      · rename_i p q h1 h2
        have := seqL_length h2
        simp [this.1, this.2]
      · cases h
    · cases h

theorem run_eqFields {vs us : Array Value} {n : Nat} : ∀ {fs : List Field} {off : Nat} {ks : List SK} {xs ys : List D} {r : Bool}, flatFields P fs off ks = true → seqL ks xs ys = some r →
    (∀ (j : Nat) (x : D), xs[j]? = some x → ∃ v, vs[off + j]? = some v ∧ Rel dp F G w v x) → (∀ (j : Nat) (x : D), ys[j]? = some x → ∃ v, us[off + j]? = some v ∧ Rel dp F G w v x) →
    (Op.eqFields (n + 1) vs us fs).run P w = .ok r w
  | [], _, [], xs, ys, r, _, hs, _, _ => by
    obtain ⟨h1, h2⟩ := seqL_length hs
    cases xs <;> simp at h1
    cases ys <;> simp at h2
    simp only [seqL] at hs
    injection hs with hs
    subst hs
    rfl
  | [], _, _ :: _, _, _, _, hf, _, _, _ => by simp [flatFields] at hf
  | _ :: _, _, [], _, _, _, hf, _, _, _ => by simp [flatFields] at hf
  | f :: fs, off, k :: ks, xs, ys, r, hf, hs, hx, hy => by
    simp only [flatFields, Bool.and_eq_true, bne_iff_ne, ne_eq, beq_iff_eq] at hf
    obtain ⟨⟨⟨⟨hn, hk⟩, hsz⟩, hoff⟩, hrest⟩ := hf
    match xs, ys with
    | [], _ => simp [seqL] at hs
    | _ :: _, [] => simp [seqL] at hs
    | x :: xs, y :: ys =>
      simp only [seqL] at hs
      split at hs
      · rename_i hc
        simp only [Bool.and_eq_true] at hc
        split at hs
        · rename_i p q h1 h2
          injection hs with hs
          obtain ⟨v, hv, hrv⟩ := hx 0 x rfl
          obtain ⟨u, hu, hru⟩ := hy 0 y rfl
          have ih := run_eqFields (n := n) (vs := vs) (us := us) hrest h2 (fun j z hz => by
            obtain ⟨v, a, b⟩ := hx (j + 1) z (by simpa using hz)
            exact ⟨v, by rwa [show off + 1 + j = off + (j + 1) by omega], b⟩) (fun j z hz => by
            obtain ⟨v, a, b⟩ := hy (j + 1) z (by simpa using hz)
            exact ⟨v, by rwa [show off + 1 + j = off + (j + 1) by omega], b⟩)
          simp only [Nat.add_zero] at hv hu
          subst hoff
          simp only [Op.eqFields, ne_eq, hn, not_false_eq_true, if_true, Sem.run_bind, mSK_part hk hv, mSK_part hk hu, Result.andThen, run_scal n hk hc.1 hc.2 h1 hrv hru]
          subst hs
          cases p
          · simp
          · simpa using ih
        · cases hs
      · cases hs

theorem run_flat {t : TypeId} {ks : List SK} {xs ys : List D} {vs us : Array Value} {r : Bool} {n : Nat} (ht : mFlat P t ks = true) (hs : seqL ks xs ys = some r)
    (hu : Rel dp F G w (.agg vs) (.agg xs)) (hv : Rel dp F G w (.agg us) (.agg ys)) : (Op.equalIn (n + 2) t (.agg vs) (.agg us)).run P w = .ok r w ∧ P.eqGuardType P.depth t = false := by
  have gx : ∀ {vs : Array Value} {xs : List D}, Rel dp F G w (.agg vs) (.agg xs) → ∀ (j : Nat) (x : D), xs[j]? = some x → ∃ v, vs[j]? = some v ∧ Rel dp F G w v x := by
    intro vs xs h j x hx
    cases h with
    | agg _ _ hl h =>
      have hlt : j < vs.size := by rw [hl]; exact (List.getElem?_eq_some_iff.1 hx).1
      exact ⟨vs[j], Array.getElem?_eq_getElem hlt, h j _ x (Array.getElem?_eq_getElem hlt) hx⟩
  unfold mFlat at ht
  split at ht
  · rename_i fs hfs
    simp only [Bool.and_eq_true, Bool.not_eq_true'] at ht
    obtain ⟨⟨h1, h2⟩, h3⟩ := ht
    refine ⟨?_, h2⟩
    have hfo : P.fieldsOf t = fs := by simp [Program.fieldsOf, hfs]
    have ht' : P.underlying t = some (.struct (P.fieldsOf t)) := by rw [hfo]; exact hfs
    rw [run_equalIn_struct w (n + 1) t vs us ht' h1, hfo]
    exact run_eqFields h3 hs (fun j x hx => by rw [Nat.zero_add]; exact gx hu j x hx) (fun j x hx => by rw [Nat.zero_add]; exact gx hv j x hx)
  · rename_i m e he
    simp only [Bool.and_eq_true, Bool.not_eq_true', beq_iff_eq] at ht
    obtain ⟨⟨⟨⟨rfl, h2⟩, h3⟩, h4⟩, h5⟩ := ht
    refine ⟨?_, h2⟩
    match ks, h3 with
    | [k1, k2], _ =>
      obtain ⟨l1, l2⟩ := seqL_length hs
      match xs, l1, ys, l2 with
      | [x1, x2], _, [y1, y2], _ =>
        simp only [seqL] at hs
        split at hs
        · rename_i hc1
          simp only [Bool.and_eq_true] at hc1
          split at hs
          · rename_i p q hp hq
            injection hs with hs
            split at hq
            · rename_i hc2
              simp only [Bool.and_eq_true] at hc2
              split at hq
              · rename_i p2 q2 hp2 hq2
                injection hq with hq
                injection hq2 with hq2
                subst hq2 hq hs
                simp only [List.all_cons, List.all_nil, Bool.and_true, Bool.and_eq_true] at h4
                obtain ⟨v1, a1, b1⟩ := gx hu 0 x1 rfl
                obtain ⟨v2, a2, b2⟩ := gx hu 1 x2 rfl
                obtain ⟨u1, c1, e1⟩ := gx hv 0 y1 rfl
                obtain ⟨u2, c2, e2⟩ := gx hv 1 y2 rfl
                have q1 := run_scal (P := P) (n := n) h4.1 hc1.1 hc1.2 hp b1 e1
                have q2 := run_scal (P := P) (n := n) h4.2 hc2.1 hc2.2 hp2 b2 e2
                obtain ⟨m, hm⟩ : ∃ m, m = n + 1 := ⟨_, rfl⟩
                rw [← hm] at q1 q2
                rw [show n + 2 = m + 1 by omega]
                have w1 := mSK_part (P := P) (w := w) h4.1 a1
                have w2 := mSK_part (P := P) (w := w) h4.2 a2
                have w3 := mSK_part (P := P) (w := w) h4.1 c1
                have w4 := mSK_part (P := P) (w := w) h4.2 c2
                simp only [Op.equalIn, Sem.run_bind, run_underlying he, Result.andThen, run_sizeOf_of h5 w, Nat.mul_one]
                simp only [Std.Legacy.Range.forIn_eq_forIn_range', Std.Legacy.Range.size, List.range']
                simp only [List.forIn_cons, Sem.run_bind, Result.andThen, w1, w3, q1]
                cases p
                · rfl
                · simp only [Bool.not_true, Bool.false_eq_true, if_false, Sem.run_pure, Sem.run_bind, Result.andThen, Nat.zero_add, w2, w4, q2]
                  cases p2
                  · rfl
                  · rfl
              · cases hq
            · cases hq
          · cases hs
        · cases hs
  · cases ht

theorem eqD_run {op : BinOp} {r : Bool} (h : eqD op (some r) = some d) : (op = .eql ∧ d = .b r) ∨ (op = .neq ∧ d = .b (!r)) := by
  unfold eqD at h
  split at h
  · rename_i he; injection he with he; subst he; injection h with h; exact .inl ⟨rfl, h.symm⟩
  · rename_i he; injection he with he; subst he; injection h with h; exact .inr ⟨rfl, h.symm⟩
  · cases h

theorem pur_bin {op : BinOp} {q : Q} {y z : A} (hm : mR P dp o.op (.bin op q y z) = true) (hf : Fr dp F G w a fr) (he : binD op q (av fr y) (av fr z) = some d) : Pur P dp F G w a o d := by
  simp only [mR] at hm
  split at hm
  · rename_i op' t x v ty ho
    simp only [Bool.and_eq_true, decide_eq_true_eq] at hm
    obtain ⟨⟨⟨rfl, hq⟩, hx⟩, hv⟩ := hm
    have r1 := hf.eval hx
    have r2 := hf.eval hv
    generalize hv1 : a.eval x = v1 at r1
    generalize hv2 : a.eval v = v2 at r2
    generalize av fr y = e1 at r1 he
    generalize av fr z = e2 at r2 he
    have fin : (∃ u, (do eqGuard op t x v v1 v2; binOp op t v1 v2 : Sem Value).run P w = .ok u w ∧ Rel dp F G w u d) → Pur P dp F G w a o d := by
      rintro ⟨u, hu, hr⟩
      refine ⟨u, ?_, hr⟩
      simp only [execOp, ho, hv1, hv2, Sem.run_bind, Result.andThen] at hu ⊢
      rw [hu]
      rfl
    apply fin
    clear fin
    unfold binD at he
    split at he
    · -- numbers
      cases r1; cases r2
      simp only [eqGuard_at_int, pure_bind]
      split at he
      · exact shOp_run t he (.inl rfl)
      · exact shOp_run t he (.inr rfl)
      · rename_i h1 h2
        split at he
        · rename_i hk
          subst hk
          exact intOp_run t he (fun h => h1 h) (fun h => h2 h)
        · cases he
    · -- strings
      cases r1; cases r2
      rename_i l m
      simp only [eqGuard_at_string, pure_bind]
      have hl : (⟨l.toArray⟩ : ByteArray).toList = l := by simp [ByteArray.toList_eq]
      have hm : (⟨m.toArray⟩ : ByteArray).toList = m := by simp [ByteArray.toList_eq]
      have hsl : (⟨l.toArray⟩ : ByteArray).size = l.length := by show l.toArray.size = _; simp
      have hsm : (⟨m.toArray⟩ : ByteArray).size = m.length := by show m.toArray.size = _; simp
      split at he
      · split at he
        · rename_i hle
          injection he with he; subst he
          refine ⟨.string ⟨(l ++ m).toArray⟩, ?_, .s _⟩
          have : ¬ ((l.length + m.length : Nat) : Int) > IntKind.i64.max := by
            have e : IntKind.i64.max = 9223372036854775807 := by decide
            rw [e]; omega
          have ha : (⟨l.toArray⟩ : ByteArray) ++ ⟨m.toArray⟩ = ⟨(l ++ m).toArray⟩ := by
            apply ByteArray.ext
            rw [ByteArray.data_append]
            simp
          simp only [binOp, Op.stringOp, hsl, hsm, if_neg this, ha, Sem.run_pure]
        · cases he
      · injection he with he; subst he
        exact ⟨_, by simp only [binOp, Op.stringOp, hl, hm, Sem.run_pure], .b _⟩
      · injection he with he; subst he
        exact ⟨_, by simp only [binOp, Op.stringOp, hl, hm, Sem.run_pure], .b _⟩
      · injection he with he; subst he
        exact ⟨_, by simp only [binOp, Op.stringOp, hl, hm, Sem.run_pure], .b _⟩
      · cases he
    · -- booleans
      cases r1; cases r2
      rename_i p q
      simp only [eqGuard_at_bool, pure_bind]
      have hu : P.underlying t = some .bool := by
        simp only [mQ, mU] at hq
        split at hq
        · rename_i td htd
          split at hq
          · exact htd
          · cases hq
        · cases hq
      have hrun : (Op.equal t (.bool p) (.bool q)).run P w = .ok (p == q) w := run_equalIn_bool' w 9999 t p q hu
      rcases eqD_run he with ⟨rfl, rfl⟩ | ⟨rfl, rfl⟩
      · exact ⟨.bool (p == q), by simp only [binOp, Sem.run_bind, hrun, Result.andThen, Sem.run_pure], .b _⟩
      · exact ⟨.bool (!(p == q)), by simp only [binOp, Sem.run_bind, hrun, Result.andThen, Sem.run_pure], .b _⟩
    · -- structs
      rename_i ks xs ys
      have hq' : mFlat P t ks = true := hq
      cases hsq : seqL ks xs ys with
      | none => rw [hsq] at he; unfold eqD at he; split at he <;> simp_all
      | some r =>
        rw [hsq] at he
        have hr1 := r1
        have hr2 := r2
        cases r1 with
        | agg vs _ hl1 h1 =>
          cases r2 with
          | agg us _ hl2 h2 =>
            obtain ⟨e1, e2⟩ := run_flat (P := P) (n := 9998) hq' hsq hr1 hr2
            have g1 := run_eqGuard_agg w op t x v vs us e2
            rcases eqD_run he with ⟨rfl, rfl⟩ | ⟨rfl, rfl⟩
            · refine ⟨.bool r, ?_, .b _⟩
              rw [Sem.run_bind, g1, Result.andThen, run_eql_struct, e1]
              rfl
            · refine ⟨.bool (!r), ?_, .b _⟩
              rw [Sem.run_bind, g1, Result.andThen, run_neq_struct, e1]
              rfl
    · -- a slice and nil
      obtain ⟨el, hu⟩ : ∃ el, P.underlying t = some (.slice el) := by
        simp only [mQ, mU] at hq
        split at hq
        · rename_i td htd
          split at hq
          · exact ⟨_, htd⟩
          · cases hq
        · cases hq
      cases r2
      cases r1
      · simp only [eqGuard_at_slice, pure_bind]
        have hrun : (Op.equal t (.slice none 0 0) (.slice none 0 0)).run P w = .ok true w := run_equalIn_slice 9999 hu none 0 0
        rcases eqD_run he with ⟨rfl, rfl⟩ | ⟨rfl, rfl⟩
        · exact ⟨.bool true, by simp only [binOp, Sem.run_bind, hrun, Result.andThen, Sem.run_pure], .b _⟩
        · exact ⟨.bool false, by simp only [binOp, Sem.run_bind, hrun, Result.andThen, Sem.run_pure]; rfl, .b _⟩
      · rename_i blk off cap c hk hcap h1 h2 ho
        simp only [eqGuard_at_slice, pure_bind]
        have hrun : ∀ n, (Op.equal t (.slice (some ⟨blk, off, none⟩) n cap) (.slice none 0 0)).run P w = .ok false w := fun n => run_equalIn_slice 9999 hu _ n cap
        rcases eqD_run he with ⟨rfl, rfl⟩ | ⟨rfl, rfl⟩
        · exact ⟨.bool false, by simp only [binOp, Sem.run_bind, hrun, Result.andThen, Sem.run_pure], .b _⟩
        · exact ⟨.bool true, by simp only [binOp, Sem.run_bind, hrun, Result.andThen, Sem.run_pure]; rfl, .b _⟩
      · rename_i ad cap
        simp only [eqGuard_at_slice, pure_bind]
        have hrun : (Op.equal t (.slice (some ad) 0 cap) (.slice none 0 0)).run P w = .ok false w := run_equalIn_slice 9999 hu _ 0 cap
        rcases eqD_run he with ⟨rfl, rfl⟩ | ⟨rfl, rfl⟩
        · exact ⟨.bool false, by simp only [binOp, Sem.run_bind, hrun, Result.andThen, Sem.run_pure], .b _⟩
        · exact ⟨.bool true, by simp only [binOp, Sem.run_bind, hrun, Result.andThen, Sem.run_pure]; rfl, .b _⟩
    · -- a map and nil
      obtain ⟨k, el, hu⟩ : ∃ k el, P.underlying t = some (.map k el) := by
        simp only [mQ, mU] at hq
        split at hq
        · rename_i td htd
          split at hq
          · exact ⟨_, _, htd⟩
          · cases hq
        · cases hq
      cases r1; cases r2
      simp only [eqGuard_at_map, pure_bind]
      have hrun : (Op.equal t (.map none) (.map none)).run P w = .ok true w := run_equalIn_map 9999 hu none
      rcases eqD_run he with ⟨rfl, rfl⟩ | ⟨rfl, rfl⟩
      · exact ⟨.bool true, by simp only [binOp, Sem.run_bind, hrun, Result.andThen, Sem.run_pure], .b _⟩
      · exact ⟨.bool false, by simp only [binOp, Sem.run_bind, hrun, Result.andThen, Sem.run_pure]; rfl, .b _⟩
    · obtain ⟨k, el, hu⟩ : ∃ k el, P.underlying t = some (.map k el) := by
        simp only [mQ, mU] at hq
        split at hq
        · rename_i td htd
          split at hq
          · exact ⟨_, _, htd⟩
          · cases hq
        · cases hq
      cases r1; cases r2
      rename_i id g hg
      simp only [eqGuard_at_map, pure_bind]
      have hrun : (Op.equal t (.map (some g.blk)) (.map none)).run P w = .ok false w := run_equalIn_map 9999 hu _
      rcases eqD_run he with ⟨rfl, rfl⟩ | ⟨rfl, rfl⟩
      · exact ⟨.bool false, by simp only [binOp, Sem.run_bind, hrun, Result.andThen, Sem.run_pure], .b _⟩
      · exact ⟨.bool true, by simp only [binOp, Sem.run_bind, hrun, Result.andThen, Sem.run_pure]; rfl, .b _⟩
    · cases he
  · cases hm

end

end Go.Proofs.YtjniafcnjbbomaaGreatDoor.DE

namespace Go.Proofs.YtjniafcnjbbomaaGreatDoor.DE
open Go

section
variable {P : Program} {dp : Nat → Option Fn} {F F' : Fix} {G G' : List Gh} {w w' : World} {S S' : Store} {a : Act} {fr : List D} {o : Oper} {d : D}

theorem agg_get {vs : Array Value} {xs : List D} (h : Rel dp F G w (.agg vs) (.agg xs)) : vs.size = xs.length ∧ ∀ (j : Nat) (x : D), xs[j]? = some x → ∃ v, vs[j]? = some v ∧ Rel dp F G w v x := by
  cases h with
  | agg _ _ hl h =>
    refine ⟨hl, fun j x hx => ?_⟩
    have hlt : j < vs.size := by rw [hl]; exact (List.getElem?_eq_some_iff.1 hx).1
    exact ⟨vs[j], Array.getElem?_eq_getElem hlt, h j _ x (Array.getElem?_eq_getElem hlt) hx⟩

theorem rel_agg {v : Value} {xs : List D} (h : Rel dp F G w v (.agg xs)) : ∃ vs, v = .agg vs := by
  cases h; exact ⟨_, rfl⟩

theorem run_checkKey1 {t : TypeId} {k : SK} {v : Value} (e : Bool) (n : Nat) (ht : mSK P t k = true) : (Instr.checkKey e (n + 1) t v).run P w = .ok () w := by
  cases k with
  | i =>
    obtain ⟨k, htd⟩ := mSK_i ht
    simp only [Instr.checkKey, Sem.run_bind, run_underlying htd, Result.andThen]
    rfl
  | b =>
    simp only [Instr.checkKey, Sem.run_bind, run_underlying (mSK_b ht), Result.andThen]
    rfl
  | s =>
    simp only [Instr.checkKey, Sem.run_bind, run_underlying (mSK_s ht), Result.andThen]
    rfl

theorem isSKL_length : ∀ {ks : List SK} {xs : List D}, isSKL ks xs = true → xs.length = ks.length
  | [], [], _ => rfl
  | [], _ :: _, h => by simp [isSKL] at h
  | _ :: _, [], h => by simp [isSKL] at h
  | _ :: ks, _ :: xs, h => by
    simp only [isSKL, Bool.and_eq_true] at h
    simp [isSKL_length h.2]

theorem run_checkFields {vs : Array Value} {e : Bool} {n : Nat} : ∀ {fs : List Field} {off : Nat} {ks : List SK} {xs : List D}, flatFields P fs off ks = true → xs.length = ks.length →
    (∀ (j : Nat) (x : D), xs[j]? = some x → ∃ v, vs[off + j]? = some v ∧ Rel dp F G w v x) →
    (forIn fs PUnit.unit fun f _ => (do
      if f.name ≠ "_" then
        let x ← part f.type vs f.offset
        Instr.checkKey e (n + 1) f.type x
        pure (ForInStep.yield PUnit.unit)
      else pure (ForInStep.yield PUnit.unit) : Sem (ForInStep PUnit))).run P w = .ok PUnit.unit w
  | [], _, _, _, _, _, _ => rfl
  | _ :: _, _, [], _, hf, _, _ => by simp [flatFields] at hf
  | f :: fs, off, k :: ks, xs, hf, hl, hx => by
    simp only [flatFields, Bool.and_eq_true, bne_iff_ne, ne_eq, beq_iff_eq] at hf
    obtain ⟨⟨⟨⟨hn, hk⟩, hsz⟩, hoff⟩, hrest⟩ := hf
    match xs with
    | [] => simp at hl
    | x :: xs =>
      obtain ⟨v, hv, hrv⟩ := hx 0 x rfl
      have ih := run_checkFields (e := e) (n := n) (vs := vs) (xs := xs) hrest (by simpa using hl) (fun j z hz => by
            obtain ⟨v, a, b⟩ := hx (j + 1) z (by simpa using hz)
            exact ⟨v, by rwa [show off + 1 + j = off + (j + 1) by omega], b⟩)
      simp only [Nat.add_zero] at hv
      subst hoff
      simp only [List.forIn_cons, ne_eq, hn, not_false_eq_true, if_true, Sem.run_bind, mSK_part hk hv, Result.andThen, run_checkKey1 e n hk, Sem.run_pure]
      simpa only [ne_eq] using ih

theorem run_checkKey {t : TypeId} {kk : KK} {x : D} {v : Value} (e : Bool) (n : Nat) (ht : mKey P t kk = true) (hx : isKey kk x = true) (hr : Rel dp F G w v x) :
    (Instr.checkKey e (n + 2) t v).run P w = .ok () w := by
  cases kk with
  | one k => exact run_checkKey1 e (n + 1) ht
  | agg ks =>
    cases x <;> simp [isKey] at hx
    rename_i xs
    obtain ⟨vs, rfl⟩ := rel_agg hr
    obtain ⟨hsz, hg⟩ := agg_get hr
    have hl := isSKL_length hx
    simp only [mKey] at ht
    unfold mFlat at ht
    split at ht
    · rename_i fs hfs
      simp only [Bool.and_eq_true, Bool.not_eq_true'] at ht
      rw [Instr.checkKey]
      simp only [Sem.run_bind, run_underlying hfs, Result.andThen]
      rw [← Array.forIn_toList]
      have := run_checkFields (P := P) (e := e) (n := n) (vs := vs) (off := 0) ht.2 hl (fun j x hx => by rw [Nat.zero_add]; exact hg j x hx)
      simp only [Sem.run_bind, this, Result.andThen, Sem.run_pure]
    · rename_i m el he
      simp only [Bool.and_eq_true, Bool.not_eq_true', beq_iff_eq] at ht
      obtain ⟨⟨⟨⟨rfl, h2⟩, h3⟩, h4⟩, h5⟩ := ht
      match ks, h3 with
      | [k1, k2], _ =>
        match xs, hl with
        | [x1, x2], _ =>
          simp only [List.all_cons, List.all_nil, Bool.and_true, Bool.and_eq_true] at h4
          obtain ⟨v1, a1, b1⟩ := hg 0 x1 rfl
          obtain ⟨v2, a2, b2⟩ := hg 1 x2 rfl
          have w1 := mSK_part (P := P) (w := w) h4.1 a1
          have w2 := mSK_part (P := P) (w := w) h4.2 a2
          obtain ⟨m, hm⟩ : ∃ m, m = n + 1 := ⟨_, rfl⟩
          have q1 := run_checkKey1 (P := P) (w := w) (v := v1) e n h4.1
          have q2 := run_checkKey1 (P := P) (w := w) (v := v2) e n h4.2
          rw [← hm] at q1 q2
          rw [show n + 2 = m + 1 by omega, Instr.checkKey]
          simp only [Sem.run_bind, run_underlying he, Result.andThen, run_sizeOf_of h5 w, Nat.mul_one]
          simp only [Std.Legacy.Range.forIn_eq_forIn_range', Std.Legacy.Range.size, List.range']
          simp only [List.forIn_cons, List.forIn_nil, Sem.run_bind, Result.andThen, run_sizeOf_of h5 w, Nat.mul_one, w1, q1, Sem.run_pure, Nat.zero_add, w2, q2]
    · cases ht

/-- The entries of a map in memory and those of the evaluator. -/
def EsOk (dp : Nat → Option Fn) (F : Fix) (G : List Gh) (w : World) (l : List MapEntry) (es : List (D × D)) : Prop :=
  l.length = es.length ∧ ∀ (j : Nat) (e : MapEntry) (d : D × D), l[j]? = some e → es[j]? = some d → Rel dp F G w e.key d.1 ∧ Rel dp F G w e.val d.2

theorem EsOk.tail {e : MapEntry} {l : List MapEntry} {x : D × D} {es : List (D × D)} (h : EsOk dp F G w (e :: l) (x :: es)) : EsOk dp F G w l es :=
  ⟨by simpa using h.1, fun j e d he hd => h.2 (j + 1) e d (by simpa using he) (by simpa using hd)⟩

theorem EsOk.head {e : MapEntry} {l : List MapEntry} {x : D × D} {es : List (D × D)} (h : EsOk dp F G w (e :: l) (x :: es)) : Rel dp F G w e.key x.1 ∧ Rel dp F G w e.val x.2 := h.2 0 e x rfl rfl

/-- Where the key stands, with the value there. -/
def hit (l : List MapEntry) (j : Nat) : Option Nat → Option (Nat × Value)
  | none => none
  | some p => some (p, ((l[p - j]?).map (·.val)).getD undef)

theorem hit_cons (e : MapEntry) (l : List MapEntry) (j : Nat) (r : Option Nat) (h : ∀ p, r = some p → j + 1 ≤ p) : hit (e :: l) j r = hit l (j + 1) r := by
  cases r with
  | none => rfl
  | some p =>
    have := h p rfl
    simp only [hit]
    rw [show p - j = (p - (j + 1)) + 1 by omega]
    simp

theorem posD_ge {kk : KK} {key : D} : ∀ {es : List (D × D)} {j : Nat} {p : Nat}, posD kk key es j = some (some p) → j ≤ p
  | [], _, _, h => by simp [posD] at h
  | (k, _) :: es, j, p, h => by
    simp only [posD] at h
    split at h
    · injection h with h; injection h with h; omega
    · have := posD_ge h; omega
    · cases h

theorem findNow_pos {k : SK} {t : TypeId} {td : TypeDesc} {key : D} {u : Value} (ht : mSK P t k = true) (htd : P.underlying t = some td) (hr : Rel dp F G w u key) :
    ∀ {l : List MapEntry} {es : List (D × D)} {j : Nat} {r : Option Nat}, EsOk dp F G w l es → posD (.one k) key es j = some r → Instr.findNow td u l j = some (hit l j r)
  | [], [], j, r, _, h => by
    simp only [posD] at h
    injection h with h; subst h; rfl
  | [], _ :: _, _, _, he, _ => by simp [EsOk] at he
  | _ :: _, [], _, _, he, _ => by simp [EsOk] at he
  | e :: l, (x, v) :: es, j, r, he, h => by
    obtain ⟨hk, hv⟩ := he.head
    have same : ∀ b, keq (.one k) key x = some b → Instr.sameNow td u e.key = some b := by
      intro b hb
      simp only [keq] at hb
      split at hb
      · rename_i hc
        simp only [Bool.and_eq_true] at hc
        cases k with
        | i =>
          obtain ⟨q, hq⟩ := mSK_i ht
          rw [htd] at hq; injection hq with hq; subst hq
          cases hr <;> simp [isSK] at hc
          generalize e.key = ek at hk
          cases hk <;> simp [isSK] at hc
          simpa [Instr.sameNow, seq1] using hb
        | b =>
          have hq := mSK_b ht
          rw [htd] at hq; injection hq with hq; subst hq
          cases hr <;> simp [isSK] at hc
          generalize e.key = ek at hk
          cases hk <;> simp [isSK] at hc
          simpa [Instr.sameNow, seq1] using hb
        | s =>
          have hq := mSK_s ht
          rw [htd] at hq; injection hq with hq; subst hq
          cases hr <;> simp [isSK] at hc
          generalize e.key = ek at hk
          cases hk <;> simp [isSK] at hc
          rename_i p q
          simp only [seq1] at hb
          injection hb with hb
          subst hb
          simp only [Instr.sameNow]
          rw [beq_toListBytes]
          simp [ByteArray.toList_eq]
      · cases hb
    simp only [posD] at h
    split at h
    · rename_i hb
      injection h with h; subst h
      simp only [Instr.findNow, same _ hb, hit, Nat.sub_self]
      rfl
    · rename_i hb
      simp only [Instr.findNow, same _ hb]
      rw [findNow_pos ht htd hr he.tail h, hit_cons]
      rintro p rfl
      exact posD_ge h
    · cases h

theorem findAsking_pos {ks : List SK} {t : TypeId} {key : D} {u : Value} (ht : mFlat P t ks = true) (hr : Rel dp F G w u key) :
    ∀ {l : List MapEntry} {es : List (D × D)} {j : Nat} {r : Option Nat}, EsOk dp F G w l es → posD (.agg ks) key es j = some r → (Instr.findAsking t u l j).run P w = .ok (hit l j r) w
  | [], [], j, r, _, h => by
    simp only [posD] at h
    injection h with h; subst h; rfl
  | [], _ :: _, _, _, he, _ => by simp [EsOk] at he
  | _ :: _, [], _, _, he, _ => by simp [EsOk] at he
  | e :: l, (x, v) :: es, j, r, he, h => by
    obtain ⟨hk, hv⟩ := he.head
    have same : ∀ b, keq (.agg ks) key x = some b → (Op.equal t u e.key).run P w = .ok b w := by
      intro b hb
      cases key <;> simp only [keq] at hb <;> try (cases hb; done)
      cases x <;> simp only at hb <;> try (cases hb; done)
      obtain ⟨vs, rfl⟩ := rel_agg hr
      obtain ⟨us, hus⟩ := rel_agg hk
      simp only at hk hus
      rw [hus] at hk ⊢
      exact (run_flat (P := P) (n := 9998) ht hb hr hk).1
    simp only [posD] at h
    split at h
    · rename_i hb
      injection h with h; subst h
      simp only [Instr.findAsking, Sem.run_bind, same _ hb, Result.andThen, if_true, Sem.run_pure, hit, Nat.sub_self]
      rfl
    · rename_i hb
      simp only [Instr.findAsking, Sem.run_bind, same _ hb, Result.andThen, Bool.false_eq_true, if_false]
      rw [findAsking_pos ht hr he.tail h, hit_cons]
      rintro p rfl
      exact posD_ge h
    · cases h

theorem run_find {kk : KK} {t : TypeId} {key : D} {u : Value} {l : List MapEntry} {es : List (D × D)} {r : Option Nat} (ht : mKey P t kk = true) (hr : Rel dp F G w u key) (hkey : isKey kk key = true)
    (he : EsOk dp F G w l es) (h : posD kk key es 0 = some r) : (Instr.findKey t u l).run P w = .ok (hit l 0 r) w := by
  cases kk with
  | one k =>
    have hT : ∃ td, P.underlying t = some td := by
      cases k with
      | i => obtain ⟨q, hq⟩ := mSK_i ht; exact ⟨_, hq⟩
      | b => exact ⟨_, mSK_b ht⟩
      | s => exact ⟨_, mSK_s ht⟩
    obtain ⟨td, htd⟩ := hT
    simp only [Instr.findKey, Sem.run_bind, run_underlying htd, Result.andThen, findNow_pos ht htd hr he h, Sem.run_pure]
  | agg ks =>
    simp only [mKey] at ht
    have hT : ∃ td, P.underlying t = some td ∧ ∀ v u, (∃ vs, v = Value.agg vs) → Instr.sameNow td v u = none := by
      unfold mFlat at ht
      split at ht
      · rename_i fs hfs
        refine ⟨_, hfs, ?_⟩
        rintro _ u ⟨vs, rfl⟩
        simp [Instr.sameNow]
      · rename_i n e hfs
        refine ⟨_, hfs, ?_⟩
        rintro _ u ⟨vs, rfl⟩
        simp [Instr.sameNow]
      · cases ht
    obtain ⟨td, htd, hsame⟩ := hT
    cases key <;> simp [isKey] at hkey
    have hag := rel_agg hr
    cases l with
    | nil =>
      cases es with
      | nil =>
        simp only [posD] at h
        injection h with h; subst h
        simp only [Instr.findKey, Sem.run_bind, run_underlying htd, Result.andThen, Instr.findNow, Sem.run_pure, hit]
      | cons _ _ => simp [EsOk] at he
    | cons e l =>
      simp only [Instr.findKey, Sem.run_bind, run_underlying htd, Result.andThen, Instr.findNow, hsame u e.key hag]
      exact findAsking_pos ht hr he h

theorem lkD_pos {kk : KK} {key : D} : ∀ {es : List (D × D)} {r : Option D} (j : Nat), lkD kk key es = some r → ∃ p, posD kk key es j = some p ∧
    ((r = none ∧ p = none) ∨ ∃ q k v, r = some v ∧ p = some (j + q) ∧ es[q]? = some (k, v))
  | [], r, j, h => by
    simp only [lkD] at h
    injection h with h
    exact ⟨none, rfl, .inl ⟨h.symm, rfl⟩⟩
  | (k, v) :: es, r, j, h => by
    simp only [lkD] at h
    split at h
    · rename_i hk
      injection h with h
      exact ⟨some j, by simp [posD, hk], .inr ⟨0, k, v, h.symm, rfl, rfl⟩⟩
    · rename_i hk
      obtain ⟨p, hp, hh⟩ := lkD_pos (j + 1) h
      refine ⟨p, by simp [posD, hk, hp], ?_⟩
      rcases hh with hh | ⟨q, k', v', h1, h2, h3⟩
      · exact .inl hh
      · exact .inr ⟨q + 1, k', v', h1, by rw [h2]; congr 1; omega, by simpa using h3⟩
    · cases h

theorem run_zero1 {t : TypeId} {z : D} (h : mZ1 P t z = true) : ∃ v, (zeroValue t).run P w = .ok v w ∧ Rel dp F G w v z := by
  unfold mZ1 at h
  split at h
  · rename_i i hi
    split at h
    · rename_i v hv
      exact ⟨v, by simp only [zeroValue, typeInfo, Sem.run_bind, run_program, Result.andThen, hi, hv, Sem.run_pure], mV_rel h⟩
    · cases h
  · cases h

theorem map_ents {id : Nat} {g : Gh} {es : List (D × D)} (hs : Sim dp F G w S) (hsg : sget S id = some (.map es)) (hg : sget G id = some g) :
    ∃ ents : Array MapEntry, w.heap[g.blk]? = some (.map ents es.length) ∧ ents.size = es.length ∧ EsOk dp F G w ents.toList es ∧ ∀ (j : Nat) (e : MapEntry), ents[j]? = some e → e.born = j := by
  obtain ⟨ents, h1, h2, h3⟩ := hs.ent id _ g hsg hg
  refine ⟨ents, h1, h2, ⟨by simpa using h2, fun j e d he hd => (h3 j e d (by simpa using he) hd).2⟩, fun j e he => ?_⟩
  have hlt : j < es.length := by rw [← h2]; exact (Array.getElem?_eq_some_iff.1 he).1
  exact (h3 j e es[j] he (List.getElem?_eq_getElem hlt)).1

theorem run_getObj {r : Nat} {es : Array MapEntry} {c : Nat} (h : w.heap[r]? = some (.map es c)) : (getObj r).run P w = .ok (.map es c) w := by
  simp only [getObj, Sem.run, h]

/-- The answer of a look-up. -/
def lkRes (ok : Bool) (z : D) : Option D → D
  | some v => if ok then .tup [v, .b true] else v
  | none => if ok then .tup [z, .b false] else z

def lkIn (kk : KK) (S : Store) (key m : D) : Option (Option D) :=
  match m with
  | .nilm => some none
  | .mp id => match sget S id with
    | some (.map es) => lkD kk key es
    | _ => none
  | _ => none

theorem rel_two {u v : Value} {x y : D} (h1 : Rel dp F G w u x) (h2 : Rel dp F G w v y) : Rel dp F G w (.tuple #[u, v]) (.tup [x, y]) := by
  refine .tup _ _ rfl fun j v d hv hd => ?_
  match j with
  | 0 => simp at hv hd; subst hv hd; exact h1
  | 1 => simp at hv hd; subst hv hd; exact h2
  | j + 2 => simp at hd

theorem pur_lk {kk : KK} {ok : Bool} {z : D} {m key : A} {r : Option D} (hm : mR P dp o.op (.lk kk ok z m key) = true) (hs : Sim dp F G w S) (hf : Fr dp F G w a fr) (hk : isKey kk (av fr key) = true)
    (he : lkIn kk S (av fr key) (av fr m) = some r) : Pur P dp F G w a o (lkRes ok z r) := by
  simp only [mR] at hm
  split at hm
  · rename_i t x i ok' ho
    simp only [Bool.and_eq_true, beq_iff_eq] at hm
    obtain ⟨⟨⟨rfl, ht⟩, hx⟩, hi⟩ := hm
    split at ht
    · rename_i kt et hu
      simp only [Bool.and_eq_true] at ht
      obtain ⟨hkt, hz⟩ := ht
      have r1 := hf.eval hx
      have r2 := hf.eval hi
      generalize hv1 : a.eval x = v1 at r1
      generalize hv2 : a.eval i = v2 at r2
      generalize av fr key = kd at r2 hk he
      generalize av fr m = md at r1 he
      obtain ⟨zv, hzr, hzrel⟩ := run_zero1 (P := P) (dp := dp) (F := F) (G := G) (w := w) hz
      have rel_none : Rel dp F G w (if ok then .tuple #[zv, .bool false] else zv) (lkRes ok z none) := by
        cases ok
        · exact hzrel
        · exact rel_two hzrel (.b _)
      unfold lkIn at he
      cases r1 <;> simp only at he <;> try (cases he; done)
      · injection he with he; subst he
        refine ⟨_, ?_, rel_none⟩
        have hfk := run_find (P := P) (t := kt) (es := []) (l := []) hkt r2 hk ⟨rfl, fun j e d h => by simp at h⟩ (r := none) rfl
        have hck := fun b => run_checkKey (P := P) (w := w) b 9998 hkt hk r2
        simp only [execOp, ho, hv1, hv2, Instr.lookup, Sem.run_bind, run_underlying hu, Result.andThen, Sem.run_pure, hck, hfk, hit, hzr]
      · rename_i id g hg
        split at he
        · rename_i es hsg
          obtain ⟨ents, h1, h2, h3, h4⟩ := map_ents hs hsg hg
          obtain ⟨p, hp, hh⟩ := lkD_pos 0 he
          have hfk := run_find (P := P) (t := kt) hkt r2 hk h3 hp
          have hck := fun b => run_checkKey (P := P) (w := w) b 9998 hkt hk r2
          rcases hh with ⟨rfl, rfl⟩ | ⟨q, k, v, rfl, rfl, hq⟩
          · refine ⟨_, ?_, rel_none⟩
            simp only [execOp, ho, hv1, hv2, Instr.lookup, Sem.run_bind, run_underlying hu, Result.andThen, Sem.run_pure, run_getObj h1, hck, hfk, hit, hzr]
          · have hlt : q < ents.size := by rw [h2]; exact (List.getElem?_eq_some_iff.1 hq).1
            obtain ⟨hkr, hvr⟩ := h3.2 q ents[q] (k, v) (by simp [hlt]) hq
            refine ⟨if ok then .tuple #[ents[q].val, .bool true] else ents[q].val, ?_, ?_⟩
            · simp only [execOp, ho, hv1, hv2, Instr.lookup, Sem.run_bind, run_underlying hu, Result.andThen, Sem.run_pure, run_getObj h1, hck, hfk, hit]
              simp [hlt]
            · cases ok
              · exact hvr
              · exact rel_two hvr (.b _)
        · cases he
    · cases ht
  · cases hm

end

end Go.Proofs.YtjniafcnjbbomaaGreatDoor.DE

namespace Go.Proofs.YtjniafcnjbbomaaGreatDoor.DE
open Go

section
variable {P : Program} {dp : Nat → Option Fn} {F F' : Fix} {G G' : List Gh} {w w' : World} {S S' : Store} {a : Act} {fr : List D} {o : Oper} {d : D}

theorem heap_lt {b : Nat} {x : Obj} (h : w.heap[b]? = some x) : b < w.heap.size := (Array.getElem?_eq_some_iff.1 h).1

theorem Sim.lt (hs : Sim dp F G w S) {id : Nat} {e : Ent} {g : Gh} (h1 : sget S id = some e) (h2 : sget G id = some g) (hh : holds e) : g.blk < w.heap.size := by
  have := hs.ent id e g h1 h2
  cases e with
  | box cs => obtain ⟨vs, T, h, _⟩ := this; exact heap_lt h
  | tok al =>
    cases al with
    | true => obtain ⟨vs, T, h, _⟩ := this; exact heap_lt h
    | false => exact hh.elim
  | map es => obtain ⟨vs, h, _⟩ := this; exact heap_lt h
  | gone => exact hh.elim

theorem Sim.fix_lt (hs : Sim dp F G w S) {b o : Nat} (h : F b o) : b < w.heap.size := by
  obtain ⟨v, hv⟩ := hs.fcell b o h
  exact World.block_lt_of_cell? w _ hv

theorem EntOk.keep {T : Nat → Prop} {g : Gh} {e : Ent} (h : EntOk dp F G w g e) (hh : holds e) (hG : ∀ id g, sget G id = some g → sget G' id = some g)
    (hF : ∀ b o, F b o → F' b o) (hcell : ∀ b o, F b o → w'.cell? ⟨b, o, none⟩ = w.cell? ⟨b, o, none⟩)
    (hnew : ∀ b o, F' b o → F b o ∨ (T b ∧ ∃ v, w'.cell? ⟨b, o, none⟩ = some v)) (hb : w'.heap[g.blk]? = w.heap[g.blk]?) (hT : ¬ T g.blk) : EntOk dp F' G' w' g e := by
  have hn : ∀ o, F' g.blk o → F g.blk o := fun o h => (hnew _ _ h).resolve_right fun h => hT h.1
  cases e with
  | box cs =>
    obtain ⟨vs, T, h1, h2, h3, h4, h5⟩ := h
    exact ⟨vs, T, hb.trans h1, h2, fun o h => h3 o (hn o h), h4, fun m v d hv hd => (h5 m v d hv hd).mono hF hG hcell⟩
  | tok al =>
    cases al with
    | true =>
      obtain ⟨vs, T, h1, h2, h3⟩ := h
      exact ⟨vs, T, hb.trans h1, h2, fun o ho h => h3 o ho (hn o h)⟩
    | false => exact hh.elim
  | map es =>
    obtain ⟨ents, h1, h2, h3⟩ := h
    exact ⟨ents, hb.trans h1, h2, fun j e d he hd => ⟨(h3 j e d he hd).1, (h3 j e d he hd).2.1.mono hF hG hcell, (h3 j e d he hd).2.2.mono hF hG hcell⟩⟩
  | gone => exact hh.elim

theorem EntOk.free {g : Gh} {e : Ent} (h : ¬ holds e) : EntOk dp F G w g e := by
  cases e with
  | box cs => exact (h trivial).elim
  | tok al =>
    cases al with
    | true => exact (h trivial).elim
    | false => trivial
  | map es => exact (h trivial).elim
  | gone => trivial

/-- One step: the blocks in T change, all else stays. -/
theorem Sim.step (T : Nat → Prop) (hs : Sim dp F G w S) (hlen : G'.length = S'.length) (hG : ∀ id g, sget G id = some g → sget G' id = some g)
    (hF : ∀ b o, F b o → F' b o) (hcell : ∀ b o, F b o → w'.cell? ⟨b, o, none⟩ = w.cell? ⟨b, o, none⟩)
    (hnew : ∀ b o, F' b o → F b o ∨ (T b ∧ ∃ v, w'.cell? ⟨b, o, none⟩ = some v))
    (hheap : ∀ b, b < w.heap.size → ¬ T b → w'.heap[b]? = w.heap[b]?)
    (hT : ∀ b, T b → Owns S G b ∨ w.heap.size ≤ b)
    (hent : ∀ id e g, sget S' id = some e → sget G' id = some g → ¬ holds e ∨ (sget S id = some e ∧ sget G id = some g ∧ ¬ T g.blk) ∨
      (T g.blk ∧ EntOk dp F' G' w' g e ∧ ∀ j e' g', j ≠ id → sget S' j = some e' → sget G' j = some g' → holds e' → ¬ T g'.blk))
    (hsize : w.heap.size ≤ w'.heap.size) (hos : w'.os = w.os) (htape : w'.tape = w.tape) (hout : w'.output = w.output) :
    Sim dp F' G' w' S' ∧ Ext F G w S F' G' w' S' := by
  refine ⟨⟨hlen, ?_, ?_, ?_⟩, ⟨hF, hG, hcell, ?_, ?_, ?_, hsize, hos, htape, hout⟩⟩
  · intro b o h
    rcases hnew b o h with h | ⟨_, h⟩
    · obtain ⟨v, hv⟩ := hs.fcell b o h
      exact ⟨v, (hcell b o h).trans hv⟩
    · exact h
  · intro id e g h1 h2
    rcases hent id e g h1 h2 with h | ⟨h3, h4, h5⟩ | ⟨_, h, _⟩
    · exact EntOk.free h
    · by_cases hh : holds e
      · exact (hs.ent id e g h3 h4).keep hh hG hF hcell hnew (hheap _ (hs.lt h3 h4 hh) h5) h5
      · exact EntOk.free hh
    · exact h
  · intro i j e e' g g' hij h1 h2 hh hh' hg hg'
    rcases hent i e g h1 hg with h | ⟨a1, a2, a3⟩ | ⟨a1, _, a3⟩
    · exact (h hh).elim
    · rcases hent j e' g' h2 hg' with h | ⟨b1, b2, b3⟩ | ⟨b1, _, b3⟩
      · exact (h hh').elim
      · exact hs.sep i j e e' g g' hij a1 b1 hh hh' a2 b2
      · intro heq
        exact a3 (heq ▸ b1)
    · intro heq
      exact a3 j e' g' (Ne.symm hij) h2 hg' hh' (heq ▸ a1)
  · intro b hb ho
    refine hheap b hb fun h => ?_
    rcases hT b h with h | h
    · exact ho h
    · omega
  · rintro b ⟨id, e, g, h1, h2, h3, rfl⟩
    rcases hent id e g h1 h3 with h | ⟨a1, a2, a3⟩ | ⟨a1, _, a3⟩
    · exact (h h2).elim
    · exact .inl ⟨id, e, g, a1, h2, a2, rfl⟩
    · exact hT _ a1
  · intro b o h
    rcases hnew b o h with h | ⟨h, _⟩
    · exact .inl h
    · exact .inr (hT b h)

/-- The world with a new block. -/
structure Grown (w : World) (x : Obj) (w' : World) : Prop where
  heap : w'.heap = w.heap.push x
  os : w'.os = w.os
  tape : w'.tape = w.tape
  output : w'.output = w.output

theorem grown_alloc (w : World) (x : Obj) : Grown w x (w.alloc x) := ⟨rfl, rfl, rfl, rfl⟩
theorem grown_drew (w : World) (x : Obj) : Grown w x (w.drew.alloc x) := ⟨rfl, rfl, rfl, rfl⟩

theorem Grown.old {x : Obj} (h : Grown w x w') {b : Nat} (hb : b < w.heap.size) : w'.heap[b]? = w.heap[b]? := by
  rw [h.heap, Array.getElem?_push, if_neg (by omega)]

theorem Grown.new {x : Obj} (h : Grown w x w') : w'.heap[w.heap.size]? = some x := by
  rw [h.heap, Array.getElem?_push, if_pos rfl]

theorem Grown.cell {x : Obj} (h : Grown w x w') {b o : Nat} (hb : b < w.heap.size) : w'.cell? ⟨b, o, none⟩ = w.cell? ⟨b, o, none⟩ :=
  World.cell?_of_block (a := ⟨b, o, none⟩) (h.old hb)

theorem Grown.size {x : Obj} (h : Grown w x w') : w'.heap.size = w.heap.size + 1 := by rw [h.heap, Array.size_push]

/-- A new variable of the store; a token may be spent. -/
theorem Sim.push (hs : Sim dp F G w S) {x : Obj} (hg : Grown w x w') {S0 : Store} (hl0 : S0.length = S.length) (h0 : ∀ id e, sget S0 id = some e → sget S id = some e ∨ ¬ holds e)
    (g : Gh) (hgb : g.blk = w.heap.size) (e : Ent) (hF : ∀ b o, F b o → F' b o) (hnew : ∀ b o, F' b o → F b o ∨ (b = w.heap.size ∧ ∃ v, w'.cell? ⟨b, o, none⟩ = some v))
    (he : EntOk dp F' (g :: G) w' g e) : Sim dp F' (g :: G) w' (e :: S0) ∧ Ext F G w S F' (g :: G) w' (e :: S0) := by
  have hlt : ∀ {j e' g'}, j ≠ S0.length → sget (e :: S0) j = some e' → sget (g :: G) j = some g' → sget S0 j = some e' ∧ sget G j = some g' := by
    intro j e' g' hj h1 h2
    simp only [sget] at h1 h2
    rw [if_neg hj] at h1
    rw [if_neg (by rw [hs.len, ← hl0]; exact hj)] at h2
    exact ⟨h1, h2⟩
  have hold : ∀ {j e' g'}, j ≠ S0.length → sget (e :: S0) j = some e' → sget (g :: G) j = some g' → holds e' → sget S j = some e' ∧ sget G j = some g' ∧ g'.blk < w.heap.size := by
    intro j e' g' hj h1 h2 hh
    obtain ⟨a, b⟩ := hlt hj h1 h2
    rcases h0 _ _ a with a | a
    · exact ⟨a, b, hs.lt a b hh⟩
    · exact (a hh).elim
  refine hs.step (fun b => b = w.heap.size) (by simp [hs.len, hl0]) (fun id g' h => by rw [sget_cons _ _ _ (sget_lt h)]; exact h) hF
    (fun b o h => hg.cell (hs.fix_lt h)) hnew (fun b hb _ => hg.old hb) (fun b h => .inr (by omega)) ?_ (by rw [hg.size]; omega) hg.os hg.tape hg.output
  intro id e' g' h1 h2
  by_cases hid : id = S0.length
  · refine .inr (.inr ?_)
    have e1 : e' = e := by rw [hid, sget_top] at h1; injection h1 with h1; exact h1.symm
    have e2 : g' = g := by rw [hid, hl0, ← hs.len, sget_top] at h2; injection h2 with h2; exact h2.symm
    rw [e1, e2]
    refine ⟨hgb, he, fun j e'' g'' hj h3 h4 hh heq => ?_⟩
    have := (hold (by omega) h3 h4 hh).2.2
    omega
  · by_cases hh : holds e'
    · obtain ⟨a, b, c⟩ := hold hid h1 h2 hh
      exact .inr (.inl ⟨a, b, by omega⟩)
    · exact .inl hh

/-- A new row that stays as it is. -/
theorem Sim.fixed (hs : Sim dp F G w S) {x : Obj} (hg : Grown w x w') (hF : ∀ b o, F b o → F' b o) (hnew : ∀ b o, F' b o → F b o ∨ (b = w.heap.size ∧ ∃ v, w'.cell? ⟨b, o, none⟩ = some v)) :
    Sim dp F' G w' S ∧ Ext F G w S F' G w' S := by
  refine hs.step (fun b => b = w.heap.size) hs.len (fun id g' h => h) hF
    (fun b o h => hg.cell (hs.fix_lt h)) hnew (fun b hb _ => hg.old hb) (fun b h => .inr (by omega)) ?_ (by rw [hg.size]; omega) hg.os hg.tape hg.output
  intro id e' g' h1 h2
  by_cases hh : holds e'
  · have := hs.lt h1 h2 hh
    exact .inr (.inl ⟨h1, h2, by omega⟩)
  · exact .inl hh

/-- The world with another block at b. -/
structure Wrote (w : World) (b : Nat) (x : Obj) (w' : World) : Prop where
  at_ : w'.heap[b]? = some x
  other : ∀ k, k ≠ b → w'.heap[k]? = w.heap[k]?
  size : w'.heap.size = w.heap.size
  os : w'.os = w.os
  tape : w'.tape = w.tape
  output : w'.output = w.output

theorem Sim.write (hs : Sim dp F G w S) {id : Nat} {e e' : Ent} {g : Gh} {x : Obj} (he : sget S id = some e) (hg : sget G id = some g) (hh : holds e) (hw : Wrote w g.blk x w')
    (hcell : ∀ o, F g.blk o → w'.cell? ⟨g.blk, o, none⟩ = w.cell? ⟨g.blk, o, none⟩)
    (hF : ∀ b o, F b o → F' b o) (hnew : ∀ b o, F' b o → F b o ∨ (b = g.blk ∧ ∃ v, w'.cell? ⟨b, o, none⟩ = some v))
    (he' : EntOk dp F' G w' g e') : Sim dp F' G w' (sset S id e') ∧ Ext F G w S F' G w' (sset S id e') := by
  refine hs.step (fun b => b = g.blk) (by rw [sset_length]; exact hs.len) (fun _ _ h => h) hF (fun b o h => ?_) hnew (fun b _ hb => hw.other b hb)
    (fun b hb => .inl ⟨id, e, g, he, hh, hg, hb.symm⟩) ?_ (by rw [hw.size]; exact Nat.le_refl _) hw.os hw.tape hw.output
  · by_cases hb : b = g.blk
    · subst hb; exact hcell o h
    · exact World.cell?_of_block (a := ⟨b, o, none⟩) (hw.other b hb)
  · intro j e'' g'' h1 h2
    rw [sget_sset] at h1
    split at h1
    · rename_i hj
      obtain ⟨rfl, hj⟩ := hj
      injection h1 with h1; subst h1
      rw [hg] at h2; injection h2 with h2; subst h2
      refine .inr (.inr ⟨rfl, he', fun i e3 g3 hij h3 h4 hh3 heq => ?_⟩)
      rw [sget_sset, if_neg (fun h => hij h.1)] at h3
      exact hs.sep i j e3 e g3 g hij h3 he hh3 hh h4 hg heq
    · rename_i hj
      by_cases hh3 : holds e''
      · refine .inr (.inl ⟨h1, h2, fun heq => ?_⟩)
        by_cases hji : j = id
        · exact hj ⟨hji, hji ▸ sget_lt h1⟩
        · exact hs.sep j id e'' e g'' g hji h1 he hh3 hh h2 hg heq
      · exact .inl hh3

/-- What an operation does, seen from both sides. -/
def OpOk (P : Program) (dp : Nat → Option Fn) (F : Fix) (G : List Gh) (w : World) (S : Store) (a : Act) (o : Oper) (d : D) (S' : Store) : Prop :=
  ∀ (next : Act → World → Prop) (Q : Exit → Act → World → Prop), (∀ v w' F' G', Sim dp F' G' w' S' → Ext F G w S F' G' w' S' → Rel dp F' G' w' v d → next (a.put o.dst v) w') → o.wp P a w next Q

theorem Pur.ok (hs : Sim dp F G w S) (h : Pur P dp F G w a o d) : OpOk P dp F G w S a o d S := by
  intro next Q hn
  obtain ⟨v, h1, h2⟩ := h
  simp only [Oper.wp, h1, Oper.upon]
  exact hn v w F G hs (Ext.refl _ _ _ _) h2

theorem opOk_value {v : Value} (h1 : (execOp a.eval o).run P w = .ok (.value v) w') (h2 : Sim dp F' G' w' S' ∧ Ext F G w S F' G' w' S') (h3 : Rel dp F' G' w' v d) : OpOk P dp F G w S a o d S' := by
  intro next Q hn
  simp only [Oper.wp, h1, Oper.upon]
  exact hn v w' F' G' h2.1 h2.2 h3

theorem opOk_skip (h1 : (execOp a.eval o).run P w = .ok .skip w') (h2 : Sim dp F' G' w' S' ∧ Ext F G w S F' G' w' S') : OpOk P dp F G w S a o (.tup []) S' := by
  intro next Q hn
  simp only [Oper.wp, h1, Oper.upon]
  exact hn undef w' F' G' h2.1 h2.2 (.tup #[] [] rfl fun j v d h => by simp at h)

end

end Go.Proofs.YtjniafcnjbbomaaGreatDoor.DE

namespace Go.Proofs.YtjniafcnjbbomaaGreatDoor.DE
open Go

section
variable {P : Program} {dp : Nat → Option Fn} {F F' : Fix} {G G' : List Gh} {w w' : World} {S S' : Store} {a : Act} {fr : List D} {o : Oper} {d : D}

def CellsOk (dp : Nat → Option Fn) (F : Fix) (G : List Gh) (w : World) (vs : Array Value) (z : List D) : Prop :=
  vs.size = z.length ∧ ∀ (j : Nat) (v : Value) (d : D), vs[j]? = some v → z[j]? = some d → Rel dp F G w v d

theorem fset_getElem? : ∀ (l : List D) (n j : Nat) (x : D), (fset l n x)[j]? = if j = n ∧ n < l.length then some x else l[j]?
  | [], n, j, x => by simp [fset]
  | d :: l, 0, 0, x => by simp [fset]
  | d :: l, 0, j + 1, x => by simp [fset]
  | d :: l, n + 1, 0, x => by simp [fset]
  | d :: l, n + 1, j + 1, x => by simp only [fset, List.getElem?_cons_succ, fset_getElem? l n j x]; simp

theorem CellsOk.set {vs : Array Value} {z : List D} (h : CellsOk dp F G w vs z) (n : Nat) {v : Value} {d : D} (hv : Rel dp F G w v d) : CellsOk dp F G w (vs.setIfInBounds n v) (fset z n d) := by
  refine ⟨by simp [fset_length, h.1], fun j u e hu he => ?_⟩
  rw [fset_getElem?] at he
  by_cases hj : j = n
  · subst hj
    by_cases hlt : j < z.length
    · rw [if_pos ⟨rfl, hlt⟩] at he
      injection he with he; subst he
      rw [Array.getElem?_setIfInBounds_self_of_lt (by rw [h.1]; exact hlt)] at hu
      injection hu with hu; subst hu
      exact hv
    · rw [if_neg (fun h => hlt h.2)] at he
      have := (List.getElem?_eq_some_iff.1 he).1
      omega
  · rw [if_neg (fun h => hj h.1)] at he
    rw [Array.getElem?_setIfInBounds_ne (Ne.symm hj)] at hu
    exact h.2 j u e hu he

theorem splice_length : ∀ (ds z : List D) (o : Nat), (splice z o ds).length = z.length
  | [], _, _ => rfl
  | d :: ds, z, o => by simp only [splice]; rw [splice_length ds, fset_length]

theorem CellsOk.splice {off : Nat} : ∀ {l : List Value} {ds : List D} {n : Nat} {vs : Array Value} {z : List D}, l.length = ds.length → CellsOk dp F G w vs z →
    (∀ (j : Nat) (v : Value) (d : D), l[j]? = some v → ds[j]? = some d → Rel dp F G w v d) →
    CellsOk dp F G w ((l.zipIdx n).foldl (fun cs (x : Value × Nat) => cs.setIfInBounds (off + x.2) x.1) vs) (splice z (off + n) ds)
  | [], [], _, _, _, _, h, _ => h
  | [], _ :: _, _, _, _, hl, _, _ => by simp at hl
  | _ :: _, [], _, _, _, hl, _, _ => by simp at hl
  | v :: l, d :: ds, n, vs, z, hl, h, hr => by
    simp only [List.zipIdx_cons, List.foldl_cons, DE.splice]
    rw [Nat.add_assoc]
    exact CellsOk.splice (l := l) (ds := ds) (n := n + 1) (by simpa using hl) (h.set _ (hr 0 v d rfl rfl)) fun j u e hu he => hr (j + 1) u e (by simpa using hu) (by simpa using he)

theorem fold_arr {off : Nat} (xs vs : Array Value) : (xs.zipIdx.foldl (fun cs (c, j) => cs.setIfInBounds (off + j) c) vs) = ((xs.toList.zipIdx 0).foldl (fun cs (x : Value × Nat) => cs.setIfInBounds (off + x.2) x.1) vs) := by
  rw [← Array.foldl_toList, Array.toList_zipIdx]

theorem size_fold {off : Nat} : ∀ (l : List (Value × Nat)) (vs : Array Value), (l.foldl (fun cs (x : Value × Nat) => cs.setIfInBounds (off + x.2) x.1) vs).size = vs.size
  | [], _ => rfl
  | x :: l, vs => by simp only [List.foldl_cons]; rw [size_fold l]; simp

theorem mT_k {t : TypeId} {k : Nat} {g : Bool} (h : mT P t k g = true) : (if g then k else 1) = k := by
  cases g
  · have := (run_isAgg_of h (w := default)).2 rfl
    simp [this]
  · simp

theorem mT_size {t : TypeId} {k : Nat} {g : Bool} (h : mT P t k g = true) : ∃ i, P.info? t = some i ∧ i.size = k := by
  have := mT_sz h
  unfold mSz at this
  split at this
  · rename_i i hi
    exact ⟨i, hi, by simpa using this⟩
  · cases this

theorem fill_parts {place : Nat → Option (Nat × Nat)} {places : List (Nat × TypeId)} (hf : Fr dp F G w a fr)
    (hp : ∀ i off t k g, places[i]? = some (off, t) → mT P t k g = true → place i = some (off, k)) :
    ∀ {parts : List (Nat × Operand)} {ps : List (Nat × Nat × Bool × A)} {cells : Array Value} {z cs : List D}, mParts P dp places parts ps = true → bldD fr z ps = some cs → CellsOk dp F G w cells z →
    ∃ cells', Instr.fill place cells (parts.map fun (i, x) => (i, a.eval x)) = some cells' ∧ CellsOk dp F G w cells' cs
  | [], [], cells, z, cs, _, hb, h => by
    simp only [bldD] at hb
    injection hb with hb; subst hb
    exact ⟨cells, rfl, h⟩
  | [], _ :: _, _, _, _, hm, _, _ => by simp [mParts] at hm
  | _ :: _, [], _, _, _, hm, _, _ => by simp [mParts] at hm
  | (i, x) :: parts, (off, k, g, y) :: ps, cells, z, cs, hm, hb, h => by
    simp only [mParts, Bool.and_eq_true] at hm
    obtain ⟨⟨h1, h2⟩, h3⟩ := hm
    split at h1
    · rename_i off' t ho
      simp only [Bool.and_eq_true, beq_iff_eq] at h1
      obtain ⟨rfl, hT⟩ := h1
      simp only [bldD] at hb
      split at hb
      · rename_i ds hds
        split at hb
        · rename_i hle
          obtain ⟨l1, l2, l3⟩ := cellsK_rel (hf.eval h2) hds
          rw [mT_k hT] at l1
          have hst := CellsOk.splice (dp := dp) (F := F) (G := G) (w := w) (off := off') (n := 0) (l := (a.eval x).cells.toList) (ds := ds) (by simpa using l2) h
            (fun j v d hv hd => (l3 j v d (by simpa using hv) hd).1)
          rw [Nat.add_zero] at hst
          obtain ⟨cells', hc, hok⟩ := fill_parts hf hp h3 hb hst
          refine ⟨cells', ?_, hok⟩
          have hsz : ¬ ((a.eval x).cells.size ≠ k ∨ off' + (a.eval x).cells.size > cells.size) := by
            rw [l2, l1, h.1]; omega
          simp only [List.map_cons, Instr.fill, hp i off' t k g ho hT]
          rw [if_neg (by simpa using hsz), fold_arr]
          exact hc
        · cases hb
      · cases hb
    · cases h1

theorem mZ_zero {t : TypeId} {z : List D} (h : mZ P t z = true) : ∃ i v, P.info? t = some i ∧ i.zero = some v ∧ CellsOk dp F G w v.cells z ∧ ∀ u ∈ v.cells.toList, u.oneCell' = true := by
  unfold mZ at h
  split at h
  · rename_i i hi
    split at h
    · rename_i v hv
      simp only [Bool.and_eq_true, List.all_eq_true] at h
      refine ⟨i, v, hi, hv, ⟨?_, fun j u e hu he => mV1_rel (mVL_get h.1 (by simpa using hu) he)⟩, h.2⟩
      have := mVL_length h.1
      simpa using this
    · cases h
  · cases h

theorem pur_bld {z : List D} {ps : List (Nat × Nat × Bool × A)} {cs : List D} (hm : mR P dp o.op (.bld z ps) = true) (hf : Fr dp F G w a fr) (he : bldD fr z ps = some cs) : Pur P dp F G w a o (.agg cs) := by
  simp only [mR] at hm
  split at hm
  · rename_i t parts ho
    simp only [Bool.and_eq_true] at hm
    obtain ⟨hz, hm⟩ := hm
    obtain ⟨i, v, hi, hv, hok, _⟩ := mZ_zero (P := P) (dp := dp) (F := F) (G := G) (w := w) hz
    have fin : ∀ cells', P.built t (parts.map fun (i, x) => (i, a.eval x)).toList = some cells' → CellsOk dp F G w cells' cs → Pur P dp F G w a o (.agg cs) := by
      intro cells' hb hc
      refine ⟨.agg cells', ?_, .agg _ _ hc.1 hc.2⟩
      simp only [execOp, ho, Sem.run_bind, run_build w t _ cells' hb, Result.andThen, Sem.run_pure]
    split at hm
    · rename_i fs hu
      simp only [Bool.and_eq_true, List.all_eq_true] at hm
      obtain ⟨hall, hm⟩ := hm
      have hplaces : fs.toList.mapM (fun f => (P.info? f.type).map fun i => (f.offset, i.size)) = some (fs.toList.map fun f => (f.offset, ((P.info? f.type).map (·.size)).getD 0)) := by
        generalize fs.toList = l at hall
        clear hm
        induction l with
        | nil => rfl
        | cons f l ih =>
          have h1 := hall f (by simp)
          obtain ⟨j, hj⟩ := Option.isSome_iff_exists.1 h1
          simp only [List.mapM_cons, hj, ih fun x hx => hall x (by simp [hx])]
          simp [hj]
      obtain ⟨cells', h1, h2⟩ := fill_parts (P := P) (place := fun i => (fs.toList.map fun f => (f.offset, ((P.info? f.type).map (·.size)).getD 0)).toArray[i]?) hf (fun i off t k g h1 h2 => by
        obtain ⟨j, hj, hk⟩ := mT_size h2
        simp only [List.getElem?_toArray]
        rw [List.getElem?_map] at h1 ⊢
        cases hfi : fs.toList[i]? with
        | none => simp [hfi] at h1
        | some f =>
          simp only [hfi, Option.map_some, Option.some.injEq, Prod.mk.injEq] at h1
          obtain ⟨e1, e2⟩ := h1
          subst e1 e2
          simp [hj, hk]) hm he hok
      refine fin cells' ?_ h2
      simp only [Program.built, hi, hu, hv, hplaces]
      simpa using h1
    · rename_i n e hu
      split at hm
      · rename_i ie hie
        obtain ⟨cells', h1, h2⟩ := fill_parts (P := P) (place := fun i => some (i * ie.size, ie.size)) hf (fun i off t k g h1 h2 => by
          obtain ⟨j, hj, hk⟩ := mT_size h2
          rw [List.getElem?_map] at h1
          cases hr : (List.range n)[i]? with
          | none => simp [hr] at h1
          | some q =>
            obtain ⟨hlt, hq⟩ := List.getElem?_eq_some_iff.1 hr
            simp at hq
            simp only [hr, Option.map_some, Option.some.injEq, Prod.mk.injEq] at h1
            obtain ⟨e1, e2⟩ := h1
            subst e2 e1 hq
            rw [hie] at hj
            injection hj with hj
            rw [hj, hk]) hm he hok
        refine fin cells' ?_ h2
        simp only [Program.built, hi, hu, hv, hie]
        simpa using h1
      · cases hm
    · cases hm
  · cases hm

theorem cell_new {x : Array Value} {T : TypeId} {f : Nat × Nat} (hg : Grown w (.cells x T f) w') (o : Nat) : w'.cell? ⟨w.heap.size, o, none⟩ = x[o]? := by
  simp [World.cell?, hg.new]

theorem CellsOk.ext {vs : Array Value} {z : List D} (h : CellsOk dp F G w vs z) (hF : ∀ b o, F b o → F' b o) (hG : ∀ id g, sget G id = some g → sget G' id = some g)
    (hw : ∀ b o, F b o → w'.cell? ⟨b, o, none⟩ = w.cell? ⟨b, o, none⟩) : CellsOk dp F' G' w' vs z := ⟨h.1, fun j v d hv hd => (h.2 j v d hv hd).mono hF hG hw⟩

def CellsLe (dp : Nat → Option Fn) (F : Fix) (G : List Gh) (w : World) (vs : Array Value) (z : List D) : Prop :=
  z.length ≤ vs.size ∧ ∀ (j : Nat) (v : Value) (d : D), vs[j]? = some v → z[j]? = some d → Rel dp F G w v d

theorem CellsOk.le {vs : Array Value} {z : List D} (h : CellsOk dp F G w vs z) : CellsLe dp F G w vs z := ⟨Nat.le_of_eq h.1.symm, h.2⟩

theorem CellsLe.ext {vs : Array Value} {z : List D} (h : CellsLe dp F G w vs z) (hF : ∀ b o, F b o → F' b o) (hG : ∀ id g, sget G id = some g → sget G' id = some g)
    (hw : ∀ b o, F b o → w'.cell? ⟨b, o, none⟩ = w.cell? ⟨b, o, none⟩) : CellsLe dp F' G' w' vs z := ⟨h.1, fun j v d hv hd => (h.2 j v d hv hd).mono hF hG hw⟩

/-- A new variable that has room up to a bound. -/
theorem Sim.pushBoxH (hi : Nat) (hs : Sim dp F G w S) {vs : Array Value} {T : TypeId} {z : List D} (hg : Grown w (.cells vs T (0, 0)) w') (h : CellsLe dp F G w vs z) (h1 : ∀ u ∈ vs.toList, u.oneCell' = true)
    {S0 : Store} (hl0 : S0.length = S.length) (h0 : ∀ id e, sget S0 id = some e → sget S id = some e ∨ ¬ holds e) (hhi : hi ≤ vs.size) :
    Sim dp F (⟨w.heap.size, 0, hi⟩ :: G) w' (.box z :: S0) ∧ Ext F G w S F (⟨w.heap.size, 0, hi⟩ :: G) w' (.box z :: S0) := by
  refine hs.push hg hl0 h0 ⟨w.heap.size, 0, hi⟩ rfl (.box z) (fun _ _ h => h) (fun _ _ h => .inl h) ⟨vs, T, hg.new, ⟨h.1, hhi⟩, fun o ho => ?_, h1, ?_⟩
  · have := hs.fix_lt ho
    simp at this
  · exact (h.ext (fun _ _ h => h) (fun id g h => by rw [sget_cons _ _ _ (sget_lt h)]; exact h) fun b o hF => hg.cell (hs.fix_lt hF)).2

/-- A new variable. -/
theorem Sim.pushBox (hs : Sim dp F G w S) {vs : Array Value} {T : TypeId} {z : List D} (hg : Grown w (.cells vs T (0, 0)) w') (h : CellsLe dp F G w vs z) (h1 : ∀ u ∈ vs.toList, u.oneCell' = true)
    {S0 : Store} (hl0 : S0.length = S.length) (h0 : ∀ id e, sget S0 id = some e → sget S id = some e ∨ ¬ holds e) :
    Sim dp F (⟨w.heap.size, 0, 0⟩ :: G) w' (.box z :: S0) ∧ Ext F G w S F (⟨w.heap.size, 0, 0⟩ :: G) w' (.box z :: S0) := by
  exact hs.pushBoxH 0 hg h h1 hl0 h0 (Nat.zero_le _)

theorem top_bx {S0 : Store} (hs : Sim dp F G w S) (hl0 : S0.length = S.length) {g : Gh} {w1 : World} {F1 : Fix} (o : Nat) : Rel dp F1 (g :: G) w1 (.pointer (some ⟨g.blk, o, none⟩)) (.bx S0.length o) :=
  .bx _ _ _ (by rw [hl0, ← hs.len, sget_top])

theorem ok_alloc {z : List D} (hm : mR P dp o.op (.alloc z) = true) (hs : Sim dp F G w S) : OpOk P dp F G w S a o (.bx S.length 0) (.box z :: S) := by
  simp only [mR] at hm
  split at hm
  · rename_i t ho
    obtain ⟨i, v, hi, hv, hok, h1⟩ := mZ_zero (P := P) (dp := dp) (F := F) (G := G) (w := w) hm
    refine opOk_value (v := .pointer (some ⟨w.heap.size, 0, none⟩)) (w' := w.alloc (.cells v.cells t)) ?_ (hs.pushBox (grown_alloc _ _) hok.le h1 rfl fun _ _ h => .inl h) (top_bx hs rfl 0)
    simp only [execOp, ho, Instr.alloc, zeroValue, typeInfo, hi, hv, newVar, newRow, Sem.run_bind, run_program, Sem.run_pure, Result.andThen, run_newObj_alloc]
  · cases hm

theorem cellsK_ok {k : Nat} {g : Bool} {v : Value} {cs : List D} (h : Rel dp F G w v d) (hc : cellsK k g d = some cs) : CellsOk dp F G w v.cells cs ∧ ∀ u ∈ v.cells.toList, u.oneCell' = true := by
  obtain ⟨l1, l2, l3⟩ := cellsK_rel h hc
  refine ⟨⟨l2, fun j v d hv hd => (l3 j v d hv hd).1⟩, fun u hu => ?_⟩
  obtain ⟨j, hj, rfl⟩ := List.getElem_of_mem hu
  have hj' : j < cs.length := by rw [← l2]; simpa using hj
  obtain ⟨a, b⟩ := l3 j v.cells.toList[j] cs[j] (by rw [← Array.getElem?_toList]; exact List.getElem?_eq_getElem hj) (List.getElem?_eq_getElem hj')
  exact (rel_oneCell a b).1

theorem ok_box {k : Nat} {g : Bool} {x : A} {cs : List D} (hm : mR P dp o.op (.box k g x) = true) (hs : Sim dp F G w S) (hf : Fr dp F G w a fr) (he : cellsK k g (av fr x) = some cs) :
    OpOk P dp F G w S a o (.bx S.length 0) (.box cs :: S) := by
  simp only [mR] at hm
  split at hm
  · rename_i t y ho
    simp only [Bool.and_eq_true] at hm
    obtain ⟨hok, h1⟩ := cellsK_ok (hf.eval hm.2) he
    refine opOk_value (v := .pointer (some ⟨w.heap.size, 0, none⟩)) (w' := w.alloc (.cells (a.eval y).cells t)) ?_ (hs.pushBox (grown_alloc _ _) hok.le h1 rfl fun _ _ h => .inl h) (top_bx hs rfl 0)
    simp only [execOp, ho, Instr.box, newVar, newRow, Sem.run_bind, Sem.run_pure, Result.andThen, run_newObj_alloc]
  · cases hm

theorem ok_mkmap (hm : mR P dp o.op .mkmap = true) (hs : Sim dp F G w S) : OpOk P dp F G w S a o (.mp S.length) (.map [] :: S) := by
  simp only [mR] at hm
  split at hm
  · rename_i t ho
    refine opOk_value (v := .map (some w.heap.size)) (w' := w.alloc (.map #[] 0)) ?_ (hs.push (grown_alloc _ _) rfl (fun _ _ h => .inl h) ⟨w.heap.size, 0, 0⟩ rfl (.map []) (fun _ _ h => h) (fun _ _ h => .inl h)
      ⟨#[], (grown_alloc w _).new, rfl, fun j e d h => by simp at h⟩) (.mp _ ⟨w.heap.size, 0, 0⟩ (by rw [← hs.len, sget_top]))
    simp only [execOp, ho, Instr.makeMap, Option.map_none, Sem.run_bind, Sem.run_pure, Result.andThen, run_newObj_alloc]
  · cases hm

end

end Go.Proofs.YtjniafcnjbbomaaGreatDoor.DE

namespace Go.Proofs.YtjniafcnjbbomaaGreatDoor.DE
open Go

section
variable {P : Program} {dp : Nat → Option Fn} {F F' : Fix} {G G' : List Gh} {w w' : World} {S S' : Store} {a : Act} {fr : List D} {o : Oper} {d : D}

theorem flatten_get {α : Type} {k : Nat} (hk : 0 < k) : ∀ {xs : List (List α)} (q : Nat), (∀ x ∈ xs, x.length = k) → xs.flatten[q]? = (xs[q / k]?).bind (·[q % k]?)
  | [], q, _ => by simp
  | x :: xs, q, h => by
    have hx : x.length = k := h x (by simp)
    rw [List.flatten_cons]
    by_cases hq : q < k
    · rw [List.getElem?_append_left (by omega), Nat.div_eq_of_lt hq, Nat.mod_eq_of_lt hq]
      rfl
    · rw [List.getElem?_append_right (by omega), hx, flatten_get hk (q - k) fun y hy => h y (by simp [hy])]
      have e1 : q / k = (q - k) / k + 1 := by
        have := Nat.div_eq_sub_div hk (show k ≤ q by omega)
        exact this
      have e2 : q % k = (q - k) % k := Nat.mod_eq_sub_mod (by omega)
      rw [e1, e2]
      rfl

theorem flatten_len {α : Type} {k : Nat} : ∀ {xs : List (List α)}, (∀ x ∈ xs, x.length = k) → xs.flatten.length = xs.length * k
  | [], _ => by simp
  | x :: xs, h => by
    rw [List.flatten_cons, List.length_append, h x (by simp), flatten_len fun y hy => h y (by simp [hy]), List.length_cons, Nat.add_mul]
    omega

/-- The cells of a row, from 'off' on. -/
def RowOk (dp : Nat → Option Fn) (F : Fix) (G : List Gh) (w : World) (k : Nat) (vs : Array Value) (xs : List (List D)) : Prop :=
  (∀ x ∈ xs, x.length = k) ∧ ∀ (j : Nat) (x : List D) (m : Nat) (d : D), xs[j]? = some x → x[m]? = some d → ∃ v, vs[j * k + m]? = some v ∧ v.oneCell' = true ∧ Rel dp F G w v d

theorem RowOk.mono {k : Nat} {vs : Array Value} {xs : List (List D)} (h : RowOk dp F G w k vs xs) (hF : ∀ b o, F b o → F' b o) (hG : ∀ id g, sget G id = some g → sget G' id = some g)
    (hw : ∀ b o, F b o → w'.cell? ⟨b, o, none⟩ = w.cell? ⟨b, o, none⟩) : RowOk dp F' G' w' k vs xs :=
  ⟨h.1, fun j x m d hx hd => by
    obtain ⟨v, h1, h2, h3⟩ := h.2 j x m d hx hd
    exact ⟨v, h1, h2, h3.mono hF hG hw⟩⟩

theorem lt_mul {j n k m : Nat} (hj : j < n) (hm : m < k) : j * k + m < n * k := by
  have : (j + 1) * k ≤ n * k := Nat.mul_le_mul_right k hj
  rw [Nat.add_mul] at this
  omega

theorem RowOk.rel {k : Nat} {vs : Array Value} {xs : List (List D)} {b cap : Nat} {T : TypeId} (h : RowOk dp F G w k vs xs) (hb : w.heap[b]? = some (.cells vs T (0, 0))) (hF : ∀ o, o < xs.length * k → F b o)
    (hcap : xs.length ≤ cap) {ow : Own} (ho : OwnOk G b (0 + xs.length * k) (0 + cap * k) cap ow) : Rel dp F G w (.slice (some ⟨b, 0, none⟩) xs.length cap) (.sl k false xs ow) := by
  refine .sl k xs ow b 0 cap (fun j m => vs.getD (j * k + m) undef) h.1 hcap (fun j x m d hx hd => ?_) (fun j x m d hx hd => ?_) ho
  · obtain ⟨v, h1, h2, h3⟩ := h.2 j x m d hx hd
    have hj := (List.getElem?_eq_some_iff.1 hx).1
    have hm : m < k := by
      have := (List.getElem?_eq_some_iff.1 hd).1
      rw [h.1 x (List.mem_of_getElem? hx)] at this
      exact this
    have hv : vs.getD (j * k + m) undef = v := by simp [h1]
    rw [hv, Nat.zero_add]
    exact ⟨hF _ (lt_mul hj hm), by rw [cell_box hb, h1], h2⟩
  · obtain ⟨v, h1, h2, h3⟩ := h.2 j x m d hx hd
    have hv : vs.getD (j * k + m) undef = v := by simp [h1]
    rw [hv]
    exact h3

def addRow (F : Fix) (b n : Nat) : Fix := fun b' o => F b' o ∨ (b' = b ∧ o < n)

/-- A new row, to which may be appended. -/
theorem Sim.pushRow (hs : Sim dp F G w S) {k cap : Nat} {vs : Array Value} {xs : List (List D)} {T : TypeId} (hg : Grown w (.cells vs T (0, 0)) w') (h : RowOk dp F G w k vs xs) (hsz : vs.size = cap * k) (hcap : xs.length ≤ cap)
    {S0 : Store} (hl0 : S0.length = S.length) (h0 : ∀ id e, sget S0 id = some e → sget S id = some e ∨ ¬ holds e) :
    (Sim dp (addRow F w.heap.size (xs.length * k)) (⟨w.heap.size, xs.length * k, cap * k⟩ :: G) w' (.tok true :: S0) ∧
      Ext F G w S (addRow F w.heap.size (xs.length * k)) (⟨w.heap.size, xs.length * k, cap * k⟩ :: G) w' (.tok true :: S0)) ∧
    Rel dp (addRow F w.heap.size (xs.length * k)) (⟨w.heap.size, xs.length * k, cap * k⟩ :: G) w' (.slice (some ⟨w.heap.size, 0, none⟩) xs.length cap) (.sl k false xs (.tok S0.length)) := by
  have hle : xs.length * k ≤ cap * k := Nat.mul_le_mul_right k hcap
  refine ⟨hs.push hg hl0 h0 ⟨w.heap.size, xs.length * k, cap * k⟩ rfl (.tok true) (fun _ _ h => .inl h) (fun b o h => ?_) ⟨vs, T, hg.new, ?_, fun o ho hF => ?_⟩, ?_⟩
  · rcases h with h | ⟨rfl, h⟩
    · exact .inl h
    · exact .inr ⟨rfl, vs[o]'(by omega), by rw [cell_new hg]; exact Array.getElem?_eq_getElem _⟩
  · show cap * k ≤ vs.size
    omega
  · rcases hF with hF | ⟨_, hF⟩
    · have := hs.fix_lt hF
      simp at this
    · simp only at ho
      omega
  · refine RowOk.rel (h.mono (fun _ _ h => .inl h) (fun id g h => by rw [sget_cons _ _ _ (sget_lt h)]; exact h) fun b o hF => hg.cell (hs.fix_lt hF)) hg.new (fun o ho => .inr ⟨rfl, ho⟩) hcap ?_
    simp only [OwnOk, Nat.zero_add]
    rw [hl0, ← hs.len, sget_top]

/-- A new row that stays as it is. -/
theorem Sim.fixRow (hs : Sim dp F G w S) {k cap : Nat} {vs : Array Value} {xs : List (List D)} {T : TypeId} (hg : Grown w (.cells vs T (0, 0)) w') (h : RowOk dp F G w k vs xs) (hsz : vs.size = cap * k) (hcap : xs.length ≤ cap)
    {ow : Own} (how : ow = .ro ∨ (ow = .cap0 ∧ cap = 0)) :
    (Sim dp (addRow F w.heap.size (xs.length * k)) G w' S ∧ Ext F G w S (addRow F w.heap.size (xs.length * k)) G w' S) ∧
    Rel dp (addRow F w.heap.size (xs.length * k)) G w' (.slice (some ⟨w.heap.size, 0, none⟩) xs.length cap) (.sl k false xs ow) := by
  have hle : xs.length * k ≤ cap * k := Nat.mul_le_mul_right k hcap
  refine ⟨hs.fixed hg (fun _ _ h => .inl h) (fun b o h => ?_), ?_⟩
  · rcases h with h | ⟨rfl, h⟩
    · exact .inl h
    · exact .inr ⟨rfl, vs[o]'(by omega), by rw [cell_new hg]; exact Array.getElem?_eq_getElem _⟩
  · refine RowOk.rel (h.mono (fun _ _ h => .inl h) (fun id g h => h) fun b o hF => hg.cell (hs.fix_lt hF)) hg.new (fun o ho => .inr ⟨rfl, ho⟩) hcap ?_
    rcases how with rfl | ⟨rfl, h⟩
    · trivial
    · exact h

theorem fold_get {off : Nat} : ∀ (l : List Value) (n : Nat) (vs : Array Value) (p : Nat), off + n + l.length ≤ vs.size →
    ((l.zipIdx n).foldl (fun cs (x : Value × Nat) => cs.setIfInBounds (off + x.2) x.1) vs)[p]? = if off + n ≤ p ∧ p < off + n + l.length then l[p - (off + n)]? else vs[p]?
  | [], n, vs, p, _ => by
    rw [if_neg (by simp only [List.length_nil]; omega)]; rfl
  | v :: l, n, vs, p, h => by
    simp only [List.length_cons] at h
    simp only [List.zipIdx_cons, List.foldl_cons]
    rw [fold_get l (n + 1) _ p (by simp; omega)]
    by_cases h1 : p = off + n
    · subst h1
      rw [if_neg (by omega), if_pos (by simp)]
      simp [show off + n < vs.size by omega]
    · by_cases h2 : off + n ≤ p ∧ p < off + n + (v :: l).length
      · simp only [List.length_cons] at h2
        rw [if_pos (by omega), if_pos (by simp; omega)]
        rw [show p - (off + n) = (p - (off + (n + 1))) + 1 by omega]
        rfl
      · simp only [List.length_cons] at h2
        rw [if_neg (by omega), if_neg (by simp; omega), Array.getElem?_setIfInBounds_ne (Ne.symm h1)]

theorem fill_elems {k : Nat} {g : Bool} {e : TypeId} (hf : Fr dp F G w a fr) (hT : mT P e k g = true) :
    ∀ {parts : List (Nat × Operand)} {ys : List A} {n : Nat} {cells : Array Value} {l : List (List D)}, mElems dp k g n parts ys = true → cellsAll fr k g ys = some l → (n + ys.length) * k ≤ cells.size →
    ∃ cells', Instr.fill (fun i => some (i * k, k)) cells (parts.map fun (i, x) => (i, a.eval x)) = some cells' ∧ cells'.size = cells.size ∧ l.length = ys.length ∧ (∀ p, p < n * k → cells'[p]? = cells[p]?) ∧
      (∀ x ∈ l, x.length = k) ∧ ∀ (j : Nat) (x : List D) (m : Nat) (d : D), l[j]? = some x → x[m]? = some d → ∃ v, cells'[(n + j) * k + m]? = some v ∧ v.oneCell' = true ∧ Rel dp F G w v d
  | [], [], n, cells, l, _, hc, _ => by
    simp only [cellsAll] at hc
    injection hc with hc; subst hc
    exact ⟨cells, rfl, rfl, rfl, fun _ _ => rfl, by simp, fun j x m d h => by simp at h⟩
  | [], _ :: _, _, _, _, hm, _, _ => by simp [mElems] at hm
  | _ :: _, [], _, _, _, hm, _, _ => by simp [mElems] at hm
  | (i, x) :: parts, y :: ys, n, cells, l, hm, hc, hsz => by
    simp only [mElems, Bool.and_eq_true, beq_iff_eq] at hm
    obtain ⟨⟨rfl, h2⟩, h3⟩ := hm
    simp only [cellsAll] at hc
    split at hc
    · rename_i ds r hds hr
      injection hc with hc; subst hc
      obtain ⟨l1, l2, l3⟩ := cellsK_rel (hf.eval h2) hds
      rw [mT_k hT] at l1
      simp only [List.length_cons] at hsz
      have hsz1 : (i + 1) * k ≤ cells.size := Nat.le_trans (Nat.mul_le_mul_right k (by omega)) hsz
      rw [Nat.add_mul] at hsz1
      have hfold := size_fold (off := i * k) ((a.eval x).cells.toList.zipIdx 0) cells
      obtain ⟨cells', c1, c2, c3, c4, c5, c6⟩ := fill_elems hf hT h3 hr (cells := ((a.eval x).cells.toList.zipIdx 0).foldl (fun cs (x : Value × Nat) => cs.setIfInBounds (i * k + x.2) x.1) cells)
        (by rw [hfold]; refine Nat.le_trans (Nat.mul_le_mul_right k ?_) hsz; omega)
      have hn : ¬ ((a.eval x).cells.size ≠ k ∨ i * k + (a.eval x).cells.size > cells.size) := by rw [l2, l1]; omega
      refine ⟨cells', ?_, by rw [c2, hfold], by simp [c3], ?_, ?_, ?_⟩
      · simp only [List.map_cons, Instr.fill]
        rw [if_neg (by simpa using hn), fold_arr]
        exact c1
      · intro p hp
        rw [c4 p (by rw [Nat.add_mul]; omega), fold_get _ _ _ _ (by simp [l2, l1]; omega), if_neg (by omega)]
      · intro z hz
        simp only [List.mem_cons] at hz
        rcases hz with rfl | hz
        · exact l1
        · exact c5 z hz
      · intro j z m d hz hd
        match j with
        | 0 =>
          simp at hz; subst hz
          have hm := (List.getElem?_eq_some_iff.1 hd).1
          have hm' : m < (a.eval x).cells.size := by omega
          refine ⟨(a.eval x).cells[m], ?_, ?_⟩
          · rw [Nat.add_zero, c4 _ (by rw [Nat.add_mul]; omega), fold_get _ _ _ _ (by simp [l2, l1]; omega), if_pos (by simp; omega)]
            simp [hm']
          · obtain ⟨a1, a2⟩ := l3 m _ d (Array.getElem?_eq_getElem hm') hd
            exact ⟨(rel_oneCell a1 a2).1, a1⟩
        | j + 1 =>
          obtain ⟨v, a1, a2⟩ := c6 j z m d (by simpa using hz) hd
          exact ⟨v, by rw [show i + (j + 1) = i + 1 + j by omega]; exact a1, a2⟩
    · cases hc

theorem cellsAll_length {k : Nat} {g : Bool} : ∀ {ys : List A} {l : List (List D)}, cellsAll fr k g ys = some l → l.length = ys.length
  | [], l, h => by simp only [cellsAll] at h; injection h with h; subst h; rfl
  | y :: ys, l, h => by
    simp only [cellsAll] at h
    split at h
    · rename_i h1 h2
      injection h with h; subst h
      simp [cellsAll_length h2]
    · cases h

/-- What a slice literal gives. -/
def bslRes (k : Nat) (own : Bool) (l : List (List D)) (S : Store) : D × Store :=
  if own then (if l.isEmpty then (.sl k false [] .cap0, S) else (.sl k false l (.tok S.length), .tok true :: S)) else (.sl k false l .ro, S)

theorem ok_bsl {k : Nat} {g own : Bool} {ys : List A} {l : List (List D)} (hm : mR P dp o.op (.bsl k g own ys) = true) (hs : Sim dp F G w S) (hf : Fr dp F G w a fr) (he : cellsAll fr k g ys = some l) :
    OpOk P dp F G w S a o (bslRes k own l S).1 (bslRes k own l S).2 := by
  simp only [mR] at hm
  split at hm
  · rename_i t len parts ho
    split at hm
    · rename_i e hu
      simp only [Bool.and_eq_true, decide_eq_true_eq, beq_iff_eq] at hm
      obtain ⟨⟨⟨⟨⟨⟨hT, hk0⟩, hk1⟩, rfl⟩, hlen⟩, hz⟩, hel⟩ := hm
      obtain ⟨ie, hie, hsz⟩ := mT_size hT
      rw [hie] at hz
      dsimp only at hz
      split at hz
      · rename_i z hzv
        simp only [beq_iff_eq] at hz
        have hl := cellsAll_length he
        obtain ⟨cells', c1, c2, c3, c4, c5, c6⟩ := fill_elems (P := P) (cells := (Array.range (ys.length * ie.size)).map (z.cells[· % z.cells.size]!)) hf hT hel he (by simp [hsz])
        have hrow : RowOk dp F G w k cells' l := ⟨c5, fun j x m d hx hd => by simpa using c6 j x m d hx hd⟩
        have hcs : cells'.size = l.length * k := by rw [c2, hl]; simp [hsz]
        have hrun : (execOp a.eval o).run P w = .ok (.value (.slice (some ⟨w.heap.size, 0, none⟩) l.length l.length)) (w.alloc (.cells cells' e)) := by
          by_cases h0 : ys.length = 0
          · have hy : ys = [] := List.eq_nil_of_length_eq_zero h0
            subst hy
            have hp : parts.toList = [] := by
              cases hp : parts.toList with
              | nil => rfl
              | cons x l => rw [hp] at hel; simp [mElems] at hel
            have hp' : parts = #[] := by simpa using hp
            subst hp'
            have hcells : cells' = #[] := by
              rw [← Array.size_eq_zero_iff, hcs, hl]; simp
            rw [hl]
            simp [execOp, ho, Instr.buildSlice, run_underlying hu, sizeOf, typeInfo, hie, Instr.fill, newRow, hcells, Array.range_zero']
          · have hb := run_buildSlice (P := P) w t e ys.length (parts.map fun (i, x) => (i, a.eval x)) cells' ie z hu hie hzv (by
              rw [hsz]
              have : ys.length * k ≤ 1024 * 4096 := Nat.mul_le_mul hlen hk1
              omega) (by rw [hsz]; exact Nat.mul_ne_zero h0 (by omega)) (by rw [hsz]; rw [hsz] at c1; simpa using c1)
            rw [hl]
            simp only [execOp, ho, Sem.run_bind, hb, Result.andThen, Sem.run_pure]
        unfold bslRes
        cases own with
        | false =>
          obtain ⟨h1, h2⟩ := hs.fixRow (grown_alloc _ _) hrow hcs (Nat.le_refl _) (ow := .ro) (.inl rfl)
          exact opOk_value hrun h1 h2
        | true =>
          simp only [if_true]
          split
          · rename_i hemp
            have hl0 : l = [] := by simpa using hemp
            subst hl0
            obtain ⟨h1, h2⟩ := hs.fixRow (grown_alloc _ _) hrow hcs (Nat.le_refl _) (ow := .cap0) (.inr ⟨rfl, rfl⟩)
            exact opOk_value hrun h1 h2
          · obtain ⟨h1, h2⟩ := hs.pushRow (grown_alloc _ _) hrow hcs (Nat.le_refl _) rfl (fun _ _ h => .inl h)
            exact opOk_value hrun h1 h2
      · cases hz
    · cases hm
  · cases hm

end

end Go.Proofs.YtjniafcnjbbomaaGreatDoor.DE
