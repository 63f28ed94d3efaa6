/-
  CALLS IN THE STYLE OF WHAT COMES NEXT: how a function's text (printed by tools/shallow.py) gives what its call answers.
-/
import Derived.Test.YtjlmeikcfdanmaaGreatDoorDe23
namespace Go.Proofs.YtjlmeikcfdanmaaGreatDoor.DE
open Go

/-- Behind a loop: what stands there next. -/
def QS (cf : CallF) (b : C) (Q : Ex → List D → Store → Prop) : Ex → List D → Store → Prop := Qseq (fun fr S => wp cf b fr S Q) Q

@[congr] theorem QS_congr {cf : CallF} {b : C} {Q : Ex → List D → Store → Prop} {ex ex' : Ex} {fr fr' : List D} {S S' : Store} (e : ex = ex') (h : fr = fr') (k : S = S') : QS cf b Q ex fr S = QS cf b Q ex' fr' S' := by rw [e, h, k]
@[simp] theorem QS_normal (cf : CallF) (b : C) (Q : Ex → List D → Store → Prop) (fr : List D) (S : Store) : QS cf b Q .normal fr S = wp cf b fr S Q := (rfl)
@[simp] theorem QS_exit (cf : CallF) (b : C) (Q : Ex → List D → Store → Prop) (id : Nat) (fr : List D) (S : Store) : QS cf b Q (.exit id) fr S = Q (.exit id) fr S := (rfl)
@[simp] theorem QS_ret (cf : CallF) (b : C) (Q : Ex → List D → Store → Prop) (fr : List D) (S : Store) : QS cf b Q .ret fr S = Q .ret fr S := (rfl)
/-- The code, its frame as a list that stands there. -/
def wpS (cf : CallF) (c : C) (fr : List D) (S : Store) (Q : Ex → List D → Store → Prop) : Prop := frc fr fun fr' => wp cf c fr' S Q
theorem wpS_eq (cf : CallF) (c : C) (fr : List D) (S : Store) (Q : Ex → List D → Store → Prop) : wpS cf c fr S Q = wp cf c fr S Q := frc_eq fr _
theorem wpS_of {cf : CallF} {c : C} {fr : List D} {S : Store} {Q : Ex → List D → Store → Prop} {X : Prop} (h : wpS cf c fr S Q = X) : wp cf c fr S Q = X := (wpS_eq cf c fr S Q).symm.trans h
@[congr] theorem wp_congr {cf : CallF} {c : C} {Q : Ex → List D → Store → Prop} {fr fr' : List D} {S S' : Store} (h : fr = fr') (k : S = S') : wp cf c fr S Q = wp cf c fr' S' Q := by rw [h, k]
@[simp] theorem wp_skip (cf : CallF) (Q : Ex → List D → Store → Prop) (fr : List D) (S : Store) : wp cf .skip fr S Q = Q .normal fr S := (rfl)
@[simp] theorem wp_ret (cf : CallF) (Q : Ex → List D → Store → Prop) (fr : List D) (S : Store) : wp cf .ret fr S Q = Q .ret fr S := (rfl)
@[simp] theorem wp_exit (cf : CallF) (Q : Ex → List D → Store → Prop) (id : Nat) (fr : List D) (S : Store) : wp cf (.exit id) fr S Q = Q (.exit id) fr S := (rfl)
attribute [simp] Qseq_normal Qseq_exit Qseq_ret Qblk_normal Qblk_ret Qblk_same Qblk_other

/-- The cell of a result. -/
def ldc (S : Store) (k : Nat) (g : Bool) : D → Option D
  | .bx id o => ldD S k g (.bx id o)
  | _ => none

def finR (fr : List D) (S : Store) : List Res → (List D → Prop) → Prop
  | [], K => K []
  | .t n :: l, K => finR fr S l fun m => K (fget fr n :: m)
  | .cell n k g :: l, K => OX (ldc S k g (fget fr n)) fun d => finR fr S l fun m => K (d :: m)

theorem finR_eq (fr : List D) (S : Store) : ∀ (l : List Res) (K : List D → Prop), finR fr S l K = match resL fr S l with | some m => K m | none => False
  | [], K => rfl
  | .t n :: l, K => by
    simp only [finR, resL, res1, finR_eq fr S l]
    cases resL fr S l <;> rfl
  | .cell n k g :: l, K => by
    have e : res1 fr S (.cell n k g) = ldc S k g (fget fr n) := by
      simp only [res1]
      cases fget fr n <;> rfl
    simp only [finR, resL, e, finR_eq fr S l]
    cases ldc S k g (fget fr n) <;> cases resL fr S l <;> rfl

def FinK (res : List Res) (Post : D → Store → Prop) : Ex → List D → Store → Prop
  | .exit _, _, _ => False
  | _, fr, S => finR fr S res fun l => Post (resD l) S

@[congr] theorem FinK_congr {res : List Res} {Post : D → Store → Prop} {ex ex' : Ex} {fr fr' : List D} {S S' : Store} (e : ex = ex') (h : fr = fr') (k : S = S') : FinK res Post ex fr S = FinK res Post ex' fr' S' := by rw [e, h, k]
@[simp] theorem FinK_ret1 (n : Nat) (Post : D → Store → Prop) (fr : List D) (S : Store) : FinK [.t n] Post .ret fr S = Post (fget fr n) S := (rfl)
@[simp] theorem FinK_ret2 (n m : Nat) (Post : D → Store → Prop) (fr : List D) (S : Store) : FinK [.t n, .t m] Post .ret fr S = Post (.tup [fget fr n, fget fr m]) S := (rfl)
@[simp] theorem FinK_normal (res : List Res) (Post : D → Store → Prop) (fr : List D) (S : Store) : FinK res Post .normal fr S = FinK res Post .ret fr S := (rfl)
@[simp] theorem FinK_cell1 (n k : Nat) (g : Bool) (Post : D → Store → Prop) (fr : List D) (S : Store) : FinK [.cell n k g] Post .ret fr S = OX (ldc S k g (fget fr n)) fun d => Post d S := (rfl)

theorem FinK_Fin (f : Fn) (Post : D → Store → Prop) (ex : Ex) (fr : List D) (S : Store) (h : FinK f.res Post ex fr S) : Fin f Post ex fr S := by
  cases ex with
  | exit id => exact h
  | normal => simp only [FinK, finR_eq] at h; exact h
  | ret => simp only [FinK, finR_eq] at h; exact h

def bxx (k : Nat) (g : Bool) (x : D) (S : Store) (K : D → Store → Prop) : Prop := OX (cellsK k g x) fun cs => K (.bx S.length 0) (.box cs :: S)

theorem stripL_len : ∀ l : List D, (stripL l).length = l.length
  | [] => rfl
  | _ :: l => by simp [stripL, stripL_len l]

section
variable {dp : Nat → Option Fn}
theorem call_s {g : Nat} {f : Fn} {args : List D} {S : Store} {Post : D → Store → Prop} (hg : dp g = some f) (hn : args.length = f.np ∧ f.np ≤ f.nt)
    (h : wp (call dp) f.body (frame0 f args) S (FinK f.res Post)) : ∃ r S', call dp g args S = some (r, S') ∧ Post r S' := by
  rw [wp_W] at h
  exact call_W hg hn (W_mono h (FinK_Fin f Post))

theorem iso_s {g : Nat} {f : Fn} {args : List D} {r : D} (hg : dp g = some f) (hn : args.length = f.np ∧ f.np ≤ f.nt) (ha : noRefL (stripL args) = true) (hr : noRef r = true)
    (h : wp (call dp) f.body (frame0 f (stripL args)) [] (FinK f.res fun d _ => stripT d = r)) : isoCall (call dp) g args = some r := by
  rw [wp_W] at h
  exact iso_W hg hn ha hr (W_mono h (FinK_Fin f _))

theorem iso_x {g : Nat} {f : Fn} {args : List D} {Post : D → Prop} (hg : dp g = some f) (hn : args.length = f.np ∧ f.np ≤ f.nt) (ha : noRefL (stripL args) = true) (hr : ∀ r, Post r → noRef r = true)
    (h : wp (call dp) f.body (frame0 f (stripL args)) [] (FinK f.res fun d _ => Post (stripT d))) : ∃ r, isoCall (call dp) g args = some r ∧ Post r := by
  obtain ⟨d, S', e, hp⟩ := call_s (Post := fun d _ => Post (stripT d)) hg (by rw [stripL_len]; exact hn) h
  exact ⟨_, by simp only [isoCall, ha, if_true, e, hr _ hp], hp⟩
end

/-! Frames. -/
theorem fset_len : ∀ (l : List D) (i : Nat) (v : D), (fset l i v).length = l.length
  | [], _, _ => rfl
  | _ :: _, 0, _ => rfl
  | _ :: l, i + 1, v => by simp [fset, fset_len l i v]
theorem mkf_len (n : Nat) : ∀ l, (mkf n l).length = n
  | [] => by simp [mkf]
  | (i, v) :: l => by rw [mkf, fset_len, mkf_len n l]
theorem fget_fset_same : ∀ (l : List D) (i : Nat) (v : D), i < l.length → fget (fset l i v) i = v
  | [], _, _, h => by simp at h
  | _ :: _, 0, _, _ => rfl
  | _ :: l, i + 1, v, h => by simp only [fset, fget]; exact fget_fset_same l i v (by simpa using h)
theorem fget_fset_ne : ∀ (l : List D) (i j : Nat) (v : D), i ≠ j → fget (fset l i v) j = fget l j
  | [], _, _, _, _ => rfl
  | _ :: _, 0, 0, _, h => absurd rfl h
  | _ :: _, 0, _ + 1, _, _ => rfl
  | _ :: _, _ + 1, 0, _, _ => rfl
  | _ :: l, i + 1, j + 1, v, h => by simp only [fset, fget]; exact fget_fset_ne l i j v (by omega)
@[simp] theorem fget_mkf_hit (n i : Nat) (v : D) (l : List (Nat × D)) (h : i < n) : fget (mkf n ((i, v) :: l)) i = v := by
  rw [mkf]; exact fget_fset_same _ _ _ (by rw [mkf_len]; exact h)
@[simp] theorem fget_mkf_miss (n i j : Nat) (v : D) (l : List (Nat × D)) (h : (i == j) = false) : fget (mkf n ((i, v) :: l)) j = fget (mkf n l) j := by
  rw [mkf]; exact fget_fset_ne _ _ _ _ (by simpa using h)

@[simp] theorem WB_b (c : Bool) (X Y : Prop) : WB (.b c) X Y = if c = true then X else Y := by cases c <;> rfl
@[congr] theorem jn_congr {α : Type} {K : α} {X : α → Prop} : jn K X = jn K X := rfl

end Go.Proofs.YtjlmeikcfdanmaaGreatDoor.DE
