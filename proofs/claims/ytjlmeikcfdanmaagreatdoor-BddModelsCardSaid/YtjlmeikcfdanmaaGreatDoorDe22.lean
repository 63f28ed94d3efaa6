/-
  REASONING ABOUT THE EVALUATOR: what a code comes to, step by step.
-/
import Derived.Test.YtjlmeikcfdanmaaGreatDoorDe2
import GoSem.Op.String
import Derived.Laws.BitsLemmas
namespace Go.Proofs.YtjlmeikcfdanmaaGreatDoor.DE
open Go

section
variable {cf : CallF} {fr fr' : List D} {S S' : Store}

/-- The code ends, and so that Q holds. -/
def W (cf : CallF) (c : C) (fr : List D) (S : Store) (Q : Ex → List D → Store → Prop) : Prop := match execL cf c fr S with
  | some (ex, fr', S') => Q ex fr' S'
  | none => False

theorem W_ex {c : C} {Q : Ex → List D → Store → Prop} : W cf c fr S Q ↔ ∃ ex fr' S', execL cf c fr S = some (ex, fr', S') ∧ Q ex fr' S' := by
  unfold W
  cases h : execL cf c fr S with
  | none => simp
  | some p =>
    obtain ⟨ex, f1, S1⟩ := p
    constructor
    · exact fun h => ⟨ex, f1, S1, rfl, h⟩
    · rintro ⟨ex', f2, S2, h1, h2⟩
      injection h1 with h1
      injection h1 with h1 h3
      injection h3 with h3 h4
      subst h1 h3 h4
      exact h2

def Qseq (K : List D → Store → Prop) (Q : Ex → List D → Store → Prop) : Ex → List D → Store → Prop
  | .normal, fr, S => K fr S
  | ex, fr, S => Q ex fr S

def Qblk (id : Nat) (Q : Ex → List D → Store → Prop) : Ex → List D → Store → Prop
  | .exit j, fr, S => if j = id then Q .normal fr S else Q (.exit j) fr S
  | ex, fr, S => Q ex fr S

def WB (d : D) (X Y : Prop) : Prop := match d with
  | .b true => X
  | .b false => Y
  | _ => False

def WG (d : D) (w : Bool) (X Y : Prop) : Prop := match d with
  | .b x => if x = w then X else Y
  | .tup [] => Y
  | _ => False

def WR (r : Option (D × Store)) (K : D → Store → Prop) : Prop := match r with
  | some (d, S) => K d S
  | none => False

def WI (cf : CallF) : List I → List D → Store → (List D → Store → Prop) → Prop
  | [], fr, S, Q => Q fr S
  | i :: is, fr, S, Q => match evI cf fr S i with
    | some (fr', S') => WI cf is fr' S' Q
    | none => False

def WD (cf : CallF) : List (Nat × I) → List D → Store → (List D → Store → Prop) → Prop
  | [], fr, S, Q => Q fr S
  | (_, i) :: is, fr, S, Q => match evI cf fr S i with
    | some (fr', S') => WD cf is fr' S' Q
    | none => False

@[congr] theorem W_congr {c : C} {Q : Ex → List D → Store → Prop} (h : fr = fr') (k : S = S') : W cf c fr S Q = W cf c fr' S' Q := by rw [h, k]
@[congr] theorem WI_congr {c : List I} {Q : List D → Store → Prop} (h : fr = fr') (k : S = S') : WI cf c fr S Q = WI cf c fr' S' Q := by rw [h, k]
@[congr] theorem WD_congr {c : List (Nat × I)} {Q : List D → Store → Prop} (h : fr = fr') (k : S = S') : WD cf c fr S Q = WD cf c fr' S' Q := by rw [h, k]
@[congr] theorem WB_congr {d d' : D} {X Y : Prop} (h : d = d') : WB d X Y = WB d' X Y := by rw [h]
@[congr] theorem WG_congr {d d' : D} {w : Bool} {X Y : Prop} (h : d = d') : WG d w X Y = WG d' w X Y := by rw [h]
@[congr] theorem WR_congr {r r' : Option (D × Store)} {K : D → Store → Prop} (h : r = r') : WR r K = WR r' K := by rw [h]
@[congr] theorem Qseq_congr {K : List D → Store → Prop} {Q : Ex → List D → Store → Prop} {ex ex' : Ex} (e : ex = ex') (h : fr = fr') (k : S = S') : Qseq K Q ex fr S = Qseq K Q ex' fr' S' := by rw [e, h, k]
@[congr] theorem Qblk_congr {id : Nat} {Q : Ex → List D → Store → Prop} {ex ex' : Ex} (e : ex = ex') (h : fr = fr') (k : S = S') : Qblk id Q ex fr S = Qblk id Q ex' fr' S' := by rw [e, h, k]

theorem Qseq_normal (K : List D → Store → Prop) (Q : Ex → List D → Store → Prop) (fr : List D) (S : Store) : Qseq K Q .normal fr S = K fr S := (rfl)
theorem Qseq_exit (K : List D → Store → Prop) (Q : Ex → List D → Store → Prop) (id : Nat) (fr : List D) (S : Store) : Qseq K Q (.exit id) fr S = Q (.exit id) fr S := (rfl)
theorem Qseq_ret (K : List D → Store → Prop) (Q : Ex → List D → Store → Prop) (fr : List D) (S : Store) : Qseq K Q .ret fr S = Q .ret fr S := (rfl)
theorem Qblk_normal (id : Nat) (Q : Ex → List D → Store → Prop) (fr : List D) (S : Store) : Qblk id Q .normal fr S = Q .normal fr S := (rfl)
theorem Qblk_ret (id : Nat) (Q : Ex → List D → Store → Prop) (fr : List D) (S : Store) : Qblk id Q .ret fr S = Q .ret fr S := (rfl)
theorem Qblk_same (id : Nat) (Q : Ex → List D → Store → Prop) (fr : List D) (S : Store) : Qblk id Q (.exit id) fr S = Q .normal fr S := by simp [Qblk]
theorem Qblk_other (id j : Nat) (h : (j == id) = false) (Q : Ex → List D → Store → Prop) (fr : List D) (S : Store) : Qblk id Q (.exit j) fr S = Q (.exit j) fr S := by
  have : ¬ j = id := by simpa using h
  simp [Qblk, this]

theorem WB_true (X Y : Prop) : WB (.b true) X Y = X := rfl
theorem WB_false (X Y : Prop) : WB (.b false) X Y = Y := rfl
theorem WG_skip (w : Bool) (X Y : Prop) : WG (.tup []) w X Y = Y := rfl
theorem WG_tt (X Y : Prop) : WG (.b true) true X Y = X := rfl
theorem WG_ff (X Y : Prop) : WG (.b false) false X Y = X := rfl
theorem WG_tf (X Y : Prop) : WG (.b true) false X Y = Y := rfl
theorem WG_ft (X Y : Prop) : WG (.b false) true X Y = Y := rfl
theorem WR_some (d : D) (S : Store) (K : D → Store → Prop) : WR (some (d, S)) K = K d S := rfl

theorem W_skip (Q : Ex → List D → Store → Prop) : W cf .skip fr S Q = Q .normal fr S := by simp [W, execL]
theorem W_exit (id : Nat) (Q : Ex → List D → Store → Prop) : W cf (.exit id) fr S Q = Q (.exit id) fr S := by simp [W, execL]
theorem W_ret (Q : Ex → List D → Store → Prop) : W cf .ret fr S Q = Q .ret fr S := by simp [W, execL]

theorem WI_iff (Q : List D → Store → Prop) : ∀ (is : List I) (fr : List D) (S : Store), WI cf is fr S Q = match evIs cf fr S is with | some (fr', S') => Q fr' S' | none => False
  | [], fr, S => rfl
  | i :: is, fr, S => by
    simp only [WI, evIs]
    cases evI cf fr S i with
    | none => rfl
    | some p => exact WI_iff Q is p.1 p.2

theorem WD_WI (Q : List D → Store → Prop) : ∀ (is : List (Nat × I)) (fr : List D) (S : Store), WD cf is fr S Q ↔ WI cf (snds is) fr S Q
  | [], fr, S => Iff.rfl
  | (j, i) :: is, fr, S => by
    simp only [WD, snds, WI]
    cases evI cf fr S i with
    | none => exact Iff.rfl
    | some p => exact WD_WI Q is p.1 p.2

theorem W_reg (is : List I) (kl : List Nat) (Q : Ex → List D → Store → Prop) : W cf (.reg is kl) fr S Q = WI cf is fr S (fun fr S => Q .normal (fkill fr kl) S) := by
  rw [WI_iff]
  simp only [W, execL]
  cases h : evIs cf fr S is <;> rfl

theorem W_dreg (is : List (Nat × I)) (kl : List Nat) (Q : Ex → List D → Store → Prop) : W cf (.dreg is kl) fr S Q = WD cf is fr S (fun fr S => Q .normal (fkill fr kl) S) := by
  rw [propext (WD_WI _ is fr S), WI_iff]
  simp only [W, execL]
  cases h : evIs cf fr S (snds is) <;> rfl

theorem W_seq (x y : C) (Q : Ex → List D → Store → Prop) : W cf (.seq x y) fr S Q = W cf x fr S (Qseq (fun fr S => W cf y fr S Q) Q) := by
  simp only [W, execL]
  cases h : execL cf x fr S with
  | none => rfl
  | some p =>
    obtain ⟨ex, f1, S1⟩ := p
    cases ex <;> rfl

theorem W_blk (id : Nat) (x : C) (Q : Ex → List D → Store → Prop) : W cf (.blk id x) fr S Q = W cf x fr S (Qblk id Q) := by
  simp only [W, execL]
  cases h : execL cf x fr S with
  | none => rfl
  | some p =>
    obtain ⟨ex, f1, S1⟩ := p
    cases ex with
    | normal => rfl
    | exit j =>
      simp only [Qblk]
      split <;> rfl
    | ret => rfl

theorem W_cond (q : A) (x y : C) (Q : Ex → List D → Store → Prop) : W cf (.cond q x y) fr S Q = WB (av fr q) (W cf x fr S Q) (W cf y fr S Q) := by
  simp only [W, execL]
  cases av fr q <;> try rfl
  rename_i b
  cases b <;> rfl

theorem WI_nil (Q : List D → Store → Prop) : WI cf [] fr S Q = Q fr S := rfl
theorem WD_nil (Q : List D → Store → Prop) : WD cf [] fr S Q = Q fr S := rfl

theorem WI_op (dst : Option Nat) (r : R) (is : List I) (Q : List D → Store → Prop) : WI cf (.op dst none r :: is) fr S Q = WR (evR cf fr S r) (fun d S => WI cf is (fsetO fr dst d) S Q) := by
  simp only [WI, evI, DE.wanted]
  cases evR cf fr S r <;> rfl

theorem WI_gd (dst : Option Nat) (t : Nat) (w : Bool) (r : R) (is : List I) (Q : List D → Store → Prop) : WI cf (.op dst (some (t, w)) r :: is) fr S Q =
    WG (fget fr t) w (WR (evR cf fr S r) (fun d S => WI cf is (fsetO fr dst d) S Q)) (WI cf is (fsetO fr dst (.tup [])) S Q) := by
  simp only [WI, evI, DE.wanted]
  generalize fget fr t = d
  cases d <;> try rfl
  · rename_i x
    by_cases h : x = w
    · subst h
      simp only [beq_self_eq_true, WG, if_true]
      cases evR cf fr S r <;> rfl
    · have : (x == w) = false := by simpa using h
      simp [WG, h, this]
  · rename_i l
    cases l <;> rfl

theorem WI_fz (t : Nat) (is : List I) (Q : List D → Store → Prop) : WI cf (.fz t :: is) fr S Q = WR (fzD (fget fr t) S) (fun d S => WI cf is (fset fr t d) S Q) := by
  simp only [WI, evI]
  cases fzD (fget fr t) S <;> rfl

theorem WD_op (j : Nat) (dst : Option Nat) (r : R) (is : List (Nat × I)) (Q : List D → Store → Prop) : WD cf ((j, .op dst none r) :: is) fr S Q = WR (evR cf fr S r) (fun d S => WD cf is (fsetO fr dst d) S Q) := by
  simp only [WD, evI, DE.wanted]
  cases evR cf fr S r <;> rfl

theorem WD_gd (j : Nat) (dst : Option Nat) (t : Nat) (w : Bool) (r : R) (is : List (Nat × I)) (Q : List D → Store → Prop) : WD cf ((j, .op dst (some (t, w)) r) :: is) fr S Q =
    WG (fget fr t) w (WR (evR cf fr S r) (fun d S => WD cf is (fsetO fr dst d) S Q)) (WD cf is (fsetO fr dst (.tup [])) S Q) := by
  simp only [WD, evI, DE.wanted]
  generalize fget fr t = d
  cases d <;> try rfl
  · rename_i x
    by_cases h : x = w
    · subst h
      simp only [beq_self_eq_true, WG, if_true]
      cases evR cf fr S r <;> rfl
    · have : (x == w) = false := by simpa using h
      simp [WG, h, this]
  · rename_i l
    cases l <;> rfl

def WK (r : Option (D × Store)) (d : D) (K : Prop) : Prop := match r with
  | some (e, _) => deq e d = true ∧ K
  | none => False

@[congr] theorem WK_congr {r r' : Option (D × Store)} {d d' : D} {K : Prop} (h : r = r') (k : d = d') : WK r d K = WK r' d' K := by rw [h, k]
theorem WK_some (e d : D) (S : Store) (K : Prop) (h : deq e d = true) : WK (some (e, S)) d K = K := by simp [WK, h]

theorem WD_ck (j t : Nat) (r : R) (is : List (Nat × I)) (Q : List D → Store → Prop) : WD cf ((j, .ck t r) :: is) fr S Q = WK (evR cf fr S r) (fget fr t) (WD cf is fr S Q) := by
  simp only [WD, evI]
  cases evR cf fr S r with
  | none => rfl
  | some p =>
    obtain ⟨d, T⟩ := p
    simp only [WK]
    by_cases h : deq d (fget fr t) = true
    · simp [h]
    · have : deq d (fget fr t) = false := by simpa using h
      simp [this]

theorem W_loop {kl : List Nat} {c : C} {Q : Ex → List D → Store → Prop} (J : Nat → List D → Store → Prop)
    (h : ∀ m fr S, J m fr S → W cf c (fkill fr kl) S (Qseq (fun fr' S' => ∃ m', m' < m ∧ J m' fr' S') Q)) : ∀ m fr S, J m fr S → W cf (.loop kl c) fr S Q := by
  have key : ∀ m fr S, J m fr S → ∃ n ex fr' S', iter (fun fr S => execL cf c (fkill fr kl) S) n fr S = some (ex, fr', S') ∧ Q ex fr' S' := by
    intro m
    induction m using Nat.strongRecOn with
    | _ m ih =>
      intro fr S hJ
      obtain ⟨ex, f1, S1, he, hq⟩ := W_ex.1 (h m fr S hJ)
      cases ex with
      | normal =>
        obtain ⟨m', hlt, hJ'⟩ := hq
        obtain ⟨n, ex', f2, S2, he2, hq2⟩ := ih m' hlt f1 S1 hJ'
        exact ⟨n + 1, ex', f2, S2, by simp only [iter, he]; exact he2, hq2⟩
      | exit id => exact ⟨1, .exit id, f1, S1, by simp only [iter, he], hq⟩
      | ret => exact ⟨1, .ret, f1, S1, by simp only [iter, he], hq⟩
  intro m fr S hJ
  obtain ⟨n, ex, f1, S1, he, hq⟩ := key m fr S hJ
  refine W_ex.2 ⟨ex, f1, S1, ?_, hq⟩
  simp only [execL]
  exact (lim_iff (fun n m hm => iter_mono (fun _ _ => LeO.refl _) n m hm fr S) _).2 ⟨n, he⟩

theorem W_mono {c : C} {Q Q' : Ex → List D → Store → Prop} (h : W cf c fr S Q) (hq : ∀ ex fr S, Q ex fr S → Q' ex fr S) : W cf c fr S Q' := by
  obtain ⟨ex, f1, S1, he, h⟩ := W_ex.1 h
  exact W_ex.2 ⟨ex, f1, S1, he, hq _ _ _ h⟩

/-- What a function's body is to end with. -/
def Fin (f : Fn) (Post : D → Store → Prop) : Ex → List D → Store → Prop
  | .exit _, _, _ => False
  | _, fr, S => match resL fr S f.res with
    | some l => Post (resD l) S
    | none => False

end

section
variable {dp : Nat → Option Fn} {S S' : Store}

theorem call_W {g : Nat} {f : Fn} {args : List D} {Post : D → Store → Prop} (hg : dp g = some f) (hn : args.length = f.np ∧ f.np ≤ f.nt)
    (h : W (call dp) f.body (frame0 f args) S (Fin f Post)) : ∃ r S', call dp g args S = some (r, S') ∧ Post r S' := by
  obtain ⟨ex, f1, S1, he, hq⟩ := W_ex.1 h
  rw [call_eq]
  simp only [hg, hn, and_self, if_true, he]
  cases ex with
  | exit id => exact hq.elim
  | normal =>
    simp only [Fin] at hq
    simp only [finish]
    cases hr : resL f1 S1 f.res with
    | none => simp [hr] at hq
    | some l => rw [hr] at hq; exact ⟨_, _, rfl, hq⟩
  | ret =>
    simp only [Fin] at hq
    simp only [finish]
    cases hr : resL f1 S1 f.res with
    | none => simp [hr] at hq
    | some l => rw [hr] at hq; exact ⟨_, _, rfl, hq⟩

/-- A call with its own store. -/
theorem iso_W {g : Nat} {f : Fn} {args : List D} {r : D} (hg : dp g = some f) (hn : args.length = f.np ∧ f.np ≤ f.nt) (ha : noRefL (stripL args) = true) (hr : noRef r = true)
    (h : W (call dp) f.body (frame0 f (stripL args)) [] (Fin f fun d _ => stripT d = r)) : isoCall (call dp) g args = some r := by
  obtain ⟨d, S', h1, h2⟩ := call_W (args := stripL args) hg (by
    refine ⟨?_, hn.2⟩
    rw [← hn.1]
    clear hn ha h
    induction args with
    | nil => rfl
    | cons x l ih => simp [stripL, ih]) h
  simp only [isoCall, ha, if_true, h1, h2, hr]

theorem evR_call_iso {g : Nat} {args : List A} {fr : List D} {r : D} (h : isoCall (call dp) g (avs fr args) = some r) : evR (call dp) fr S (.call g true args) = some (r, S) := by
  simp [evR, callR, h]

end

end Go.Proofs.YtjlmeikcfdanmaaGreatDoor.DE
