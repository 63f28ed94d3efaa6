/-
  COUNTING THE MODELS OF A TREE. Plain Lean; nothing of the program stands here.
-/
import Derived.Test.YtjlmeikcfdanmaaGreatDoorTc
namespace Go.Proofs.YtjlmeikcfdanmaaGreatDoor.BT

/-- How many assignments of n variables a function is true for. -/
def cntF : Nat → ((Nat → Bool) → Bool) → Nat
  | 0, f => if f (fun _ => false) then 1 else 0
  | n + 1, f => cntF n (fun s => f (upd s n false)) + cntF n (fun s => f (upd s n true))

def cntL (l : List Bool) : Nat := (l.filter id).length

theorem cntL_app (l m : List Bool) : cntL (l ++ m) = cntL l + cntL m := by simp [cntL]

theorem tabOf_succ {n : Nat} {f : (Nat → Bool) → Bool} (hd : Dep (n + 1) 0 f) : tabOf (n + 1) f = tabOf n (fun s => f (upd s n false)) ++ tabOf n (fun s => f (upd s n true)) := by
  unfold tabOf
  have : 2 ^ (n + 1) = 2 ^ n + 2 ^ n := by rw [Nat.pow_succ]; omega
  rw [this, List.range_add, List.map_append, List.map_map]
  congr 1
  · apply List.map_congr_left
    intro x hx
    have hx := List.mem_range.1 hx
    refine hd _ _ fun i _ hi => ?_
    simp only [bitsA, upd]
    split
    · rename_i e; subst e; exact Nat.testBit_lt_two_pow hx
    · rfl
  · apply List.map_congr_left
    intro x hx
    have hx := List.mem_range.1 hx
    refine hd _ _ fun i _ hi => ?_
    simp only [bitsA, upd]
    split
    · rename_i e; subst e; rw [Nat.testBit_two_pow_add_eq, Nat.testBit_lt_two_pow hx]; rfl
    · rw [Nat.testBit_two_pow_add_gt (by omega)]

theorem dep_upd {n : Nat} {f : (Nat → Bool) → Bool} (hd : Dep (n + 1) 0 f) (c : Bool) : Dep n 0 (fun s => f (upd s n c)) := by
  intro s r e
  refine hd _ _ fun i _ hi => ?_
  simp only [upd]
  split
  · rfl
  · exact e i (Nat.zero_le _) (by omega)

theorem cnt_tab : ∀ (n : Nat) (f : (Nat → Bool) → Bool), Dep n 0 f → cntL (tabOf n f) = cntF n f
  | 0, f, hd => by
    have : f (bitsA 0) = f (fun _ => false) := hd _ _ fun i _ h => by omega
    simp only [tabOf, cntL, cntF, Nat.pow_zero, List.range_one, List.map_cons, List.map_nil, this]
    cases f (fun _ => false) <;> rfl
  | n + 1, f, hd => by
    rw [tabOf_succ hd, cntL_app, cnt_tab n _ (dep_upd hd false), cnt_tab n _ (dep_upd hd true)]
    rfl

theorem cntF_not : ∀ (n : Nat) (f : (Nat → Bool) → Bool), cntF n f + cntF n (fun s => !f s) = 2 ^ n
  | 0, f => by by_cases h : f (fun _ => false) = true <;> simp [cntF, h]
  | n + 1, f => by
    have a := cntF_not n (fun s => f (upd s n false))
    have b := cntF_not n (fun s => f (upd s n true))
    simp only [cntF, Nat.pow_succ]
    omega

theorem cntF_le (n : Nat) (f : (Nat → Bool) → Bool) : cntF n f ≤ 2 ^ n := by
  have := cntF_not n f; omega

theorem upd_comm {s : Nat → Bool} {v n : Nat} {a b : Bool} (h : v ≠ n) : upd (upd s v a) n b = upd (upd s n b) v a := by
  funext i
  simp only [upd]
  by_cases e : i = n
  · subst e; simp [Ne.symm h]
  · simp [e]

/-- Half of the assignments on either side of a variable that two functions do not look at. -/
theorem cntF_half : ∀ (n v : Nat) (g h : (Nat → Bool) → Bool), v < n → (∀ s c, g (upd s v c) = g s) → (∀ s c, h (upd s v c) = h s) →
    2 * cntF n (fun s => if s v then g s else h s) = cntF n g + cntF n h
  | 0, _, _, _, hv, _, _ => by omega
  | n + 1, v, g, h, hv, hg, hh => by
    by_cases e : v = n
    · subst e
      have e1 : (fun s : Nat → Bool => if upd s v false v then g (upd s v false) else h (upd s v false)) = h := by funext s; simp [upd]; exact hh s false
      have e2 : (fun s : Nat → Bool => if upd s v true v then g (upd s v true) else h (upd s v true)) = g := by funext s; simp [upd]; exact hg s true
      have e3 : ∀ c, (fun s : Nat → Bool => g (upd s v c)) = g := fun c => funext fun s => hg s c
      have e4 : ∀ c, (fun s : Nat → Bool => h (upd s v c)) = h := fun c => funext fun s => hh s c
      simp only [cntF, e1, e2, e3, e4]
      omega
    · have ih : ∀ c, 2 * cntF n (fun s => if s v then g (upd s n c) else h (upd s n c)) = cntF n (fun s => g (upd s n c)) + cntF n (fun s => h (upd s n c)) := fun c =>
        cntF_half n v (fun s => g (upd s n c)) (fun s => h (upd s n c)) (by omega) (fun s d => by rw [upd_comm e, hg]) (fun s d => by rw [upd_comm e, hh])
      have e5 : ∀ c, (fun s : Nat → Bool => if upd s n c v then g (upd s n c) else h (upd s n c)) = fun s => if s v then g (upd s n c) else h (upd s n c) := by
        intro c; funext s; simp [upd, e]
      have a := ih false
      have b := ih true
      simp only [cntF, e5]
      omega

/-- The models of a tree over the variables from its top on. -/
def cntT (n : Nat) : T → Nat
  | .leaf b => if b then 1 else 0
  | .node v l h => cntT n l * 2 ^ (top n l - v - 1) + cntT n h * 2 ^ (top n h - v - 1)

theorem cntT_eq {n : Nat} : ∀ {t : T}, Wf n t → cntT n t * 2 ^ top n t = cntF n (fn t)
  | .leaf b, _ => by
    have : ∀ n, cntF n (fun _ => b) = (if b then 1 else 0) * 2 ^ n := by
      intro n
      induction n with
      | zero => simp [cntF]
      | succ n ih => simp only [cntF, ih, Nat.pow_succ]; cases b <;> simp; omega
    exact (this n).symm
  | .node v l h, w => by
    have hl := cntT_eq w.2.2.2.2.1
    have hh := cntT_eq w.2.2.2.2.2
    have hx := cntF_half n v (fn h) (fn l) w.1 (fun s c => fn_upd w.2.2.2.2.2 w.2.2.1 s c) (fun s c => fn_upd w.2.2.2.2.1 w.2.1 s c)
    have hf : (fun s : Nat → Bool => if s v then fn h s else fn l s) = fn (.node v l h) := by funext s; rfl
    rw [hf] at hx
    have p1 : 2 ^ top n l = 2 ^ (top n l - v - 1) * 2 ^ v * 2 := by
      rw [← Nat.pow_add, ← Nat.pow_succ]; congr 1; have := w.2.1; omega
    have p2 : 2 ^ top n h = 2 ^ (top n h - v - 1) * 2 ^ v * 2 := by
      rw [← Nat.pow_add, ← Nat.pow_succ]; congr 1; have := w.2.2.1; omega
    rw [p1] at hl
    rw [p2] at hh
    show (cntT n l * 2 ^ (top n l - v - 1) + cntT n h * 2 ^ (top n h - v - 1)) * 2 ^ v = _
    have e : 2 * ((cntT n l * 2 ^ (top n l - v - 1) + cntT n h * 2 ^ (top n h - v - 1)) * 2 ^ v) = cntT n l * (2 ^ (top n l - v - 1) * 2 ^ v * 2) + cntT n h * (2 ^ (top n h - v - 1) * 2 ^ v * 2) := by
      simp only [Nat.mul_add, Nat.mul_comm, Nat.mul_left_comm]
    have : 2 * ((cntT n l * 2 ^ (top n l - v - 1) + cntT n h * 2 ^ (top n h - v - 1)) * 2 ^ v) = 2 * cntF n (fn (.node v l h)) := by rw [e, hl, hh, hx]; omega
    omega

theorem cntT_le {n : Nat} {t : T} (w : Wf n t) : cntT n t ≤ 2 ^ n := by
  have a := cntT_eq w
  have b := cntF_le n (fn t)
  have c : cntT n t * 1 ≤ cntT n t * 2 ^ top n t := Nat.mul_le_mul (Nat.le_refl _) (Nat.two_pow_pos _)
  omega

end Go.Proofs.YtjlmeikcfdanmaaGreatDoor.BT
