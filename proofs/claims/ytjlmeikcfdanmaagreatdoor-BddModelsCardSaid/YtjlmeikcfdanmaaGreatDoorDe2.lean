/-
  THE EVALUATOR's LIMIT: what some bound on rounds and depth answers, every greater bound answers; the answer without a bound, and the equations by which it is reckoned.
-/
import Derived.Test.YtjlmeikcfdanmaaGreatDoorDe1
namespace Go.Proofs.YtjlmeikcfdanmaaGreatDoor.DE
open Go

def LeO {α : Type} (x y : Option α) : Prop := ∀ r, x = some r → y = some r

theorem LeO.refl {α : Type} (x : Option α) : LeO x x := fun _ h => h
theorem LeO.trans {α : Type} {x y z : Option α} (h : LeO x y) (k : LeO y z) : LeO x z := fun r e => k r (h r e)
theorem LeO.map {α β : Type} {x y : Option α} (h : LeO x y) (f : α → β) : LeO (x.map f) (y.map f) := by
  intro r e
  cases hx : x with
  | none => simp [hx] at e
  | some a => rw [h a hx]; rw [hx] at e; exact e

def LeC (c d : CallF) : Prop := ∀ g a S, LeO (c g a S) (d g a S)

theorem isoCall_mono {c d : CallF} (h : LeC c d) (g : Nat) (args : List D) : LeO (isoCall c g args) (isoCall d g args) := by
  intro r e
  unfold isoCall at *
  split at e
  · rename_i hn
    rw [if_pos hn]
    cases hc : c g (stripL args) [] with
    | none => simp [hc] at e
    | some p => rw [h _ _ _ p hc]; rw [hc] at e; exact e
  · cases e

theorem callR_mono {c d : CallF} (h : LeC c d) (g : Nat) (iso : Bool) (args : List D) (S : Store) : LeO (callR c g iso args S) (callR d g iso args S) := by
  unfold callR
  cases iso with
  | true => exact (isoCall_mono h g args).map _
  | false => exact h _ _ _

theorem evR_mono {c d : CallF} (h : LeC c d) (fr : List D) (S : Store) (r : R) : LeO (evR c fr S r) (evR d fr S r) := by
  cases r with
  | call g iso args => exact callR_mono h _ _ _ _
  | calld f iso args =>
    intro x e
    simp only [evR] at *
    split at e
    · exact callR_mono h _ _ _ _ _ e
    · cases e
  | _ => exact LeO.refl _

theorem evI_mono {c d : CallF} (h : LeC c d) (fr : List D) (S : Store) (o : I) : LeO (evI c fr S o) (evI d fr S o) := by
  cases o with
  | op dst gd r =>
    intro x e
    simp only [evI] at *
    split at e
    · exact (evR_mono h fr S r).map _ _ e
    · exact e
    · cases e
  | fz t => exact LeO.refl _
  | ck t r =>
    intro x e
    simp only [evI] at *
    cases hr : evR c fr S r with
    | none => simp [hr] at e
    | some p => rw [evR_mono h fr S r p hr]; rw [hr] at e; exact e

theorem evIs_mono {c d : CallF} (h : LeC c d) : ∀ (os : List I) (fr : List D) (S : Store), LeO (evIs c fr S os) (evIs d fr S os)
  | [], _, _ => LeO.refl _
  | o :: os, fr, S => by
    intro x e
    simp only [evIs] at *
    cases hi : evI c fr S o with
    | none => simp [hi] at e
    | some p =>
      rw [evI_mono h fr S o p hi]
      rw [hi] at e
      exact evIs_mono h os _ _ _ e

theorem iter_mono {f g : List D → Store → Option Out} (h : ∀ fr S, LeO (f fr S) (g fr S)) : ∀ (n m : Nat), n ≤ m → ∀ fr S, LeO (iter f n fr S) (iter g m fr S)
  | 0, _, _, _, _ => fun _ e => by cases e
  | n + 1, 0, hm, _, _ => absurd hm (by omega)
  | n + 1, m + 1, hm, fr, S => by
    intro x e
    simp only [iter] at *
    cases hf : f fr S with
    | none => simp [hf] at e
    | some p =>
      rw [h fr S p hf]
      rw [hf] at e
      obtain ⟨ex, fr', S'⟩ := p
      cases ex with
      | normal => exact iter_mono h n m (by omega) _ _ _ e
      | exit _ => exact e
      | ret => exact e

theorem exec_mono {c d : CallF} (h : LeC c d) {n m : Nat} (hm : n ≤ m) : ∀ (co : C) (fr : List D) (S : Store), LeO (exec c n co fr S) (exec d m co fr S)
  | .skip, _, _ => LeO.refl _
  | .reg ops kill, fr, S => by
    intro x e
    simp only [exec] at *
    cases hi : evIs c fr S ops with
    | none => simp [hi] at e
    | some p => rw [evIs_mono h ops fr S p hi]; rw [hi] at e; exact e
  | .dreg ops kill, fr, S => by
    intro x e
    simp only [exec] at *
    cases hi : evIs c fr S (snds ops) with
    | none => simp [hi] at e
    | some p => rw [evIs_mono h (snds ops) fr S p hi]; rw [hi] at e; exact e
  | .seq a b, fr, S => by
    intro x e
    simp only [exec] at *
    cases ha : exec c n a fr S with
    | none => simp [ha] at e
    | some p =>
      rw [exec_mono h hm a fr S p ha]
      rw [ha] at e
      obtain ⟨ex, fr', S'⟩ := p
      cases ex with
      | normal => exact exec_mono h hm b _ _ _ e
      | exit _ => exact e
      | ret => exact e
  | .cond q a b, fr, S => by
    intro x e
    simp only [exec] at *
    cases hq : av fr q with
    | b y =>
      rw [hq] at e
      cases y with
      | true => exact exec_mono h hm a _ _ _ e
      | false => exact exec_mono h hm b _ _ _ e
    | _ => simp [hq] at e
  | .blk id a, fr, S => by
    intro x e
    simp only [exec] at *
    cases ha : exec c n a fr S with
    | none => simp [ha] at e
    | some p => rw [exec_mono h hm a fr S p ha]; rw [ha] at e; exact e
  | .loop kl a, fr, S => iter_mono (fun fr S => exec_mono h hm a (fkill fr kl) S) n m hm fr S
  | .exit _, _, _ => LeO.refl _
  | .ret, _, _ => LeO.refl _
  | .bad, _, _ => LeO.refl _

theorem finish_mono (f : Fn) {x y : Option Out} (h : LeO x y) : LeO (finish f x) (finish f y) := by
  intro r e
  cases hx : x with
  | none => simp [hx, finish] at e
  | some p => rw [h p hx]; rw [hx] at e; exact e

theorem callN_step (dp : Nat → Option Fn) : ∀ n, LeC (callN dp n) (callN dp (n + 1))
  | 0 => fun _ _ _ _ e => by cases e
  | n + 1 => by
    intro g a S r e
    simp only [callN] at e ⊢
    cases hg : dp g with
    | none => simp [hg] at e
    | some f =>
      simp only [hg] at e ⊢
      split at e
      · rename_i hn
        rw [if_pos hn]
        exact finish_mono f (exec_mono (callN_step dp n) (Nat.le_succ n) f.body _ _) _ e
      · cases e

theorem callN_mono (dp : Nat → Option Fn) (n : Nat) : ∀ m, n ≤ m → LeC (callN dp n) (callN dp m) := by
  intro m hm
  induction m with
  | zero => have : n = 0 := by omega
            subst this; exact fun _ _ _ => LeO.refl _
  | succ m ih =>
    rcases Nat.lt_or_ge n (m + 1) with h | h
    · exact fun g a S => (ih (by omega) g a S).trans (callN_step dp m g a S)
    · have : n = m + 1 := by omega
      subst this; exact fun _ _ _ => LeO.refl _

open Classical in
noncomputable def lim {α : Type} (f : Nat → Option α) : Option α := if h : ∃ r, ∃ n, f n = some r then some (Classical.choose h) else none

theorem lim_iff {α : Type} {f : Nat → Option α} (hf : ∀ n m, n ≤ m → LeO (f n) (f m)) (r : α) : lim f = some r ↔ ∃ n, f n = some r := by
  unfold lim
  constructor
  · intro h
    split at h
    · rename_i hx
      injection h with h
      exact h ▸ Classical.choose_spec hx
    · cases h
  · rintro ⟨n, hn⟩
    have hx : ∃ r, ∃ n, f n = some r := ⟨r, n, hn⟩
    rw [dif_pos hx]
    obtain ⟨m, hm⟩ := Classical.choose_spec hx
    have h1 := hf n (max n m) (Nat.le_max_left _ _) r hn
    have h2 := hf m (max n m) (Nat.le_max_right _ _) _ hm
    rw [h1] at h2
    exact h2.symm

noncomputable def call (dp : Nat → Option Fn) : CallF := fun g a S => lim fun n => callN dp n g a S

noncomputable def execL (call : CallF) : C → List D → Store → Option Out
  | .skip, fr, S => some (.normal, fr, S)
  | .reg ops kill, fr, S => match evIs call fr S ops with
    | some (fr', S') => some (.normal, fkill fr' kill, S')
    | none => none
  | .dreg ops kill, fr, S => match evIs call fr S (snds ops) with
    | some (fr', S') => some (.normal, fkill fr' kill, S')
    | none => none
  | .seq a b, fr, S => match execL call a fr S with
    | some (.normal, fr', S') => execL call b fr' S'
    | r => r
  | .cond c a b, fr, S => match av fr c with
    | .b true => execL call a fr S
    | .b false => execL call b fr S
    | _ => none
  | .blk id c, fr, S => match execL call c fr S with
    | some (.exit j, fr', S') => some (if j = id then .normal else .exit j, fr', S')
    | r => r
  | .loop kl c, fr, S => lim fun n => iter (fun fr S => execL call c (fkill fr kl) S) n fr S
  | .exit id, fr, S => some (.exit id, fr, S)
  | .ret, fr, S => some (.ret, fr, S)
  | .bad, _, _ => none

section
variable {dp : Nat → Option Fn}

theorem call_iff (g : Nat) (a : List D) (S : Store) (r : D × Store) : call dp g a S = some r ↔ ∃ n, callN dp n g a S = some r :=
  lim_iff (fun n m h => callN_mono dp n m h g a S) r

theorem callN_call (n : Nat) : LeC (callN dp n) (call dp) := fun g a S r h => (call_iff g a S r).2 ⟨n, h⟩

theorem isoCall_ex {g : Nat} {a : List D} {r : D} (h : isoCall (call dp) g a = some r) : ∃ n, isoCall (callN dp n) g a = some r := by
  unfold isoCall at h
  split at h
  · rename_i hn
    cases hc : call dp g (stripL a) [] with
    | none => simp [hc] at h
    | some p =>
      obtain ⟨n, e⟩ := (call_iff _ _ _ _).1 hc
      refine ⟨n, ?_⟩
      unfold isoCall
      rw [if_pos hn, e]
      rw [hc] at h
      exact h
  · cases h

theorem callR_ex {g : Nat} {iso : Bool} {a : List D} {S : Store} {r : D × Store} (h : callR (call dp) g iso a S = some r) : ∃ n, callR (callN dp n) g iso a S = some r := by
  unfold callR at *
  cases iso with
  | true =>
    simp only [if_true] at h ⊢
    cases hc : isoCall (call dp) g a with
    | none => simp [hc] at h
    | some p =>
      obtain ⟨n, e⟩ := isoCall_ex hc
      exact ⟨n, by rw [e]; rw [hc] at h; exact h⟩
  | false => simpa using (call_iff _ _ _ _).1 (by simpa using h)

theorem evR_ex {fr : List D} {S : Store} {o : R} {r : D × Store} (h : evR (call dp) fr S o = some r) : ∃ n, evR (callN dp n) fr S o = some r := by
  cases o with
  | call g iso args => exact callR_ex h
  | calld f iso args =>
    simp only [evR] at *
    split at h
    · obtain ⟨n, e⟩ := callR_ex h
      exact ⟨n, e⟩
    · cases h
  | _ => exact ⟨0, h⟩

theorem evI_ex {fr : List D} {S : Store} {o : I} {r : List D × Store} (h : evI (call dp) fr S o = some r) : ∃ n, evI (callN dp n) fr S o = some r := by
  cases o with
  | op dst gd o =>
    simp only [evI] at *
    split at h
    · cases hc : evR (call dp) fr S o with
      | none => simp [hc] at h
      | some p =>
        obtain ⟨n, e⟩ := evR_ex hc
        exact ⟨n, by rw [e]; rw [hc] at h; exact h⟩
    · exact ⟨0, h⟩
    · cases h
  | fz t => exact ⟨0, h⟩
  | ck t o =>
    simp only [evI] at *
    cases hc : evR (call dp) fr S o with
    | none => simp [hc] at h
    | some p =>
      obtain ⟨n, e⟩ := evR_ex hc
      exact ⟨n, by rw [e]; rw [hc] at h; exact h⟩

theorem evIs_ex : ∀ {os : List I} {fr : List D} {S : Store} {r : List D × Store}, evIs (call dp) fr S os = some r → ∃ n, evIs (callN dp n) fr S os = some r
  | [], _, _, _, h => ⟨0, h⟩
  | o :: os, fr, S, r, h => by
    simp only [evIs] at *
    cases hi : evI (call dp) fr S o with
    | none => simp [hi] at h
    | some p =>
      rw [hi] at h
      obtain ⟨n, e⟩ := evI_ex hi
      obtain ⟨m, e'⟩ := evIs_ex h
      refine ⟨max n m, ?_⟩
      rw [evI_mono (callN_mono dp n (max n m) (Nat.le_max_left _ _)) _ _ _ _ e]
      exact evIs_mono (callN_mono dp m (max n m) (Nat.le_max_right _ _)) _ _ _ _ e'

theorem iter_ex {f : Nat → List D → Store → Option Out} {g : List D → Store → Option Out} (hf : ∀ n m, n ≤ m → ∀ fr S, LeO (f n fr S) (f m fr S))
    (h : ∀ fr S r, g fr S = some r → ∃ n, f n fr S = some r) : ∀ (k : Nat) (fr : List D) (S : Store) (r : Out), iter g k fr S = some r → ∃ n, iter (f n) k fr S = some r
  | 0, _, _, _, e => by cases e
  | k + 1, fr, S, r, e => by
    simp only [iter] at *
    cases hg : g fr S with
    | none => simp [hg] at e
    | some p =>
      rw [hg] at e
      obtain ⟨n, hn⟩ := h _ _ _ hg
      obtain ⟨ex, fr', S'⟩ := p
      cases ex with
      | normal =>
        obtain ⟨m, hm⟩ := iter_ex hf h k _ _ _ e
        refine ⟨max n m, ?_⟩
        rw [hf n (max n m) (Nat.le_max_left _ _) _ _ _ hn]
        exact iter_mono (hf m (max n m) (Nat.le_max_right _ _)) k k (Nat.le_refl _) _ _ _ hm
      | exit i => exact ⟨n, by rw [hn]; exact e⟩
      | ret => exact ⟨n, by rw [hn]; exact e⟩

theorem execN_mono {n m : Nat} (h : n ≤ m) (c : C) (fr : List D) (S : Store) : LeO (exec (callN dp n) n c fr S) (exec (callN dp m) m c fr S) :=
  exec_mono (callN_mono dp n m h) h c fr S

theorem execL_ex : ∀ (c : C) (fr : List D) (S : Store) (r : Out), execL (call dp) c fr S = some r → ∃ n, exec (callN dp n) n c fr S = some r
  | .skip, _, _, _, h => ⟨0, h⟩
  | .reg ops kill, fr, S, r, h => by
    simp only [execL, exec] at *
    cases hi : evIs (call dp) fr S ops with
    | none => simp [hi] at h
    | some p =>
      obtain ⟨n, e⟩ := evIs_ex hi
      exact ⟨n, by rw [e]; rw [hi] at h; exact h⟩
  | .dreg ops kill, fr, S, r, h => by
    simp only [execL, exec] at *
    cases hi : evIs (call dp) fr S (snds ops) with
    | none => simp [hi] at h
    | some p =>
      obtain ⟨n, e⟩ := evIs_ex hi
      exact ⟨n, by rw [e]; rw [hi] at h; exact h⟩
  | .seq a b, fr, S, r, h => by
    simp only [execL, exec] at *
    cases ha : execL (call dp) a fr S with
    | none => simp [ha] at h
    | some p =>
      rw [ha] at h
      obtain ⟨n, e⟩ := execL_ex a _ _ _ ha
      obtain ⟨ex, fr', S'⟩ := p
      cases ex with
      | normal =>
        obtain ⟨m, e'⟩ := execL_ex b _ _ _ h
        refine ⟨max n m, ?_⟩
        rw [execN_mono (Nat.le_max_left n m) _ _ _ _ e]
        exact execN_mono (Nat.le_max_right n m) _ _ _ _ e'
      | exit i => exact ⟨n, by rw [e]; exact h⟩
      | ret => exact ⟨n, by rw [e]; exact h⟩
  | .cond q a b, fr, S, r, h => by
    simp only [execL, exec] at *
    cases hq : av fr q with
    | b y =>
      rw [hq] at h
      cases y with
      | true => exact execL_ex a _ _ _ h
      | false => exact execL_ex b _ _ _ h
    | _ => simp [hq] at h
  | .blk id a, fr, S, r, h => by
    simp only [execL, exec] at *
    cases ha : execL (call dp) a fr S with
    | none => simp [ha] at h
    | some p =>
      obtain ⟨n, e⟩ := execL_ex a _ _ _ ha
      exact ⟨n, by rw [e]; rw [ha] at h; exact h⟩
  | .loop kl a, fr, S, r, h => by
    simp only [execL, exec] at *
    obtain ⟨k, hk⟩ := (lim_iff (fun n m hm => iter_mono (fun _ _ => LeO.refl _) n m hm fr S) r).1 h
    obtain ⟨n, hn⟩ := iter_ex (f := fun n fr S => exec (callN dp n) n a (fkill fr kl) S) (fun n m hm fr S => execN_mono hm a (fkill fr kl) S) (fun fr S r => execL_ex a (fkill fr kl) S r) k fr S r hk
    refine ⟨max n k, ?_⟩
    exact iter_mono (fun fr S => execN_mono (Nat.le_max_left n k) a (fkill fr kl) S) k (max n k) (Nat.le_max_right _ _) _ _ _ hn
  | .exit _, _, _, _, h => ⟨0, h⟩
  | .ret, _, _, _, h => ⟨0, h⟩
  | .bad, _, _, _, h => by cases h

theorem exec_execL (n : Nat) : ∀ (c : C) (fr : List D) (S : Store), LeO (exec (callN dp n) n c fr S) (execL (call dp) c fr S)
  | .skip, _, _ => LeO.refl _
  | .reg ops kill, fr, S => by
    intro x e
    simp only [exec, execL] at *
    cases hi : evIs (callN dp n) fr S ops with
    | none => simp [hi] at e
    | some p => rw [evIs_mono (callN_call n) ops fr S p hi]; rw [hi] at e; exact e
  | .dreg ops kill, fr, S => by
    intro x e
    simp only [exec, execL] at *
    cases hi : evIs (callN dp n) fr S (snds ops) with
    | none => simp [hi] at e
    | some p => rw [evIs_mono (callN_call n) (snds ops) fr S p hi]; rw [hi] at e; exact e
  | .seq a b, fr, S => by
    intro x e
    simp only [exec, execL] at *
    cases ha : exec (callN dp n) n a fr S with
    | none => simp [ha] at e
    | some p =>
      rw [exec_execL n a fr S p ha]
      rw [ha] at e
      obtain ⟨ex, fr', S'⟩ := p
      cases ex with
      | normal => exact exec_execL n b _ _ _ e
      | exit _ => exact e
      | ret => exact e
  | .cond q a b, fr, S => by
    intro x e
    simp only [exec, execL] at *
    cases hq : av fr q with
    | b y =>
      rw [hq] at e
      cases y with
      | true => exact exec_execL n a _ _ _ e
      | false => exact exec_execL n b _ _ _ e
    | _ => simp [hq] at e
  | .blk id a, fr, S => by
    intro x e
    simp only [exec, execL] at *
    cases ha : exec (callN dp n) n a fr S with
    | none => simp [ha] at e
    | some p => rw [exec_execL n a fr S p ha]; rw [ha] at e; exact e
  | .loop kl a, fr, S => by
    intro x e
    simp only [exec, execL] at *
    exact (lim_iff (fun n m hm => iter_mono (fun _ _ => LeO.refl _) n m hm fr S) x).2 ⟨n, iter_mono (fun fr S => exec_execL n a (fkill fr kl) S) n n (Nat.le_refl _) _ _ _ e⟩
  | .exit _, _, _ => LeO.refl _
  | .ret, _, _ => LeO.refl _
  | .bad, _, _ => LeO.refl _

theorem execL_iff (c : C) (fr : List D) (S : Store) (r : Out) : execL (call dp) c fr S = some r ↔ ∃ n, exec (callN dp n) n c fr S = some r :=
  ⟨execL_ex c fr S r, fun ⟨n, h⟩ => exec_execL n c fr S r h⟩

theorem Option.ext_some {α : Type} {x y : Option α} (h : ∀ r, x = some r ↔ y = some r) : x = y := by
  cases hx : x with
  | none => cases hy : y with
    | none => rfl
    | some b => have := (h b).2 hy; rw [hx] at this; cases this
  | some a => exact ((h a).1 hx).symm

/-- The equation of a call. -/
theorem call_eq (g : Nat) (a : List D) (S : Store) : call dp g a S = match dp g with
    | some f => if a.length = f.np ∧ f.np ≤ f.nt then finish f (execL (call dp) f.body (frame0 f a) S) else none
    | none => none := by
  apply Option.ext_some
  intro r
  rw [call_iff]
  constructor
  · rintro ⟨n, h⟩
    cases n with
    | zero => cases h
    | succ n =>
      simp only [callN] at h
      cases hg : dp g with
      | none => simp [hg] at h
      | some f =>
        simp only [hg] at h ⊢
        split at h
        · rename_i hn
          rw [if_pos hn]
          exact finish_mono f (exec_execL n f.body _ _) _ h
        · cases h
  · intro h
    cases hg : dp g with
    | none => simp [hg] at h
    | some f =>
      simp only [hg] at h
      split at h
      · rename_i hn
        cases he : execL (call dp) f.body (frame0 f a) S with
        | none => simp [he, finish] at h
        | some p =>
          obtain ⟨n, e⟩ := execL_ex _ _ _ _ he
          refine ⟨n + 1, ?_⟩
          simp only [callN, hg]
          rw [if_pos hn, e, ← he]
          exact h
      · cases h
end

end Go.Proofs.YtjlmeikcfdanmaaGreatDoor.DE
