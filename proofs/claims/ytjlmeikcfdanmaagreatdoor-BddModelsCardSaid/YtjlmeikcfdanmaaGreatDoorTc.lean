/-
  TABLES OF FUNCTIONS AND TREES OF PARTS OF THEM. Plain Lean; nothing of the program stands here.
-/
import Derived.Test.YtjlmeikcfdanmaaGreatDoorTb
namespace Go.Proofs.YtjlmeikcfdanmaaGreatDoor.BT

def bitsA (b : Nat) : Nat → Bool := fun i => b.testBit i
def mix (v b : Nat) (s : Nat → Bool) : Nat → Bool := fun i => if i < v then b.testBit i else s i

theorem mix_zero (b : Nat) (s : Nat → Bool) : mix 0 b s = s := by funext i; simp [mix]

theorem mix_lo {v b : Nat} (hb : b < 2 ^ v) (s : Nat → Bool) : mix v b (upd s v false) = mix (v + 1) b s := by
  funext i
  simp only [mix, upd]
  by_cases h : i < v
  · simp [h, show i < v + 1 by omega]
  · by_cases e : i = v
    · subst e; simp [Nat.testBit_lt_two_pow hb]
    · simp [h, e, show ¬ i < v + 1 by omega]

theorem mix_hi {v b : Nat} (hb : b < 2 ^ v) (s : Nat → Bool) : mix v b (upd s v true) = mix (v + 1) (b + 2 ^ v) s := by
  funext i
  simp only [mix, upd]
  rw [Nat.add_comm b]
  by_cases h : i < v
  · simp [h, show i < v + 1 by omega, Nat.testBit_two_pow_add_gt h]
  · by_cases e : i = v
    · subst e; simp [Nat.testBit_two_pow_add_eq, Nat.testBit_lt_two_pow hb]
    · simp [h, e, show ¬ i < v + 1 by omega]

/-- The tree of the part of a function that agrees with b below v. -/
noncomputable def subT (n v b : Nat) (f : (Nat → Bool) → Bool) : T := tr n (n - v) fun s => f (mix v b s)

theorem subT_wf {n v : Nat} (b : Nat) (f : (Nat → Bool) → Bool) (h : v ≤ n) : Wf n (subT n v b f) ∧ v ≤ top n (subT n v b f) := by
  have := tr_wf n (n - v) (fun s => f (mix v b s)) (by omega)
  exact ⟨this.1, by have := this.2; unfold subT; omega⟩

theorem subT_fn {n v : Nat} {b : Nat} {f : (Nat → Bool) → Bool} (hd : Dep n 0 f) (h : v ≤ n) (s : Nat → Bool) : fn (subT n v b f) s = f (mix v b s) := by
  unfold subT
  rw [tr_fn n (n - v) _ (by omega)]
  intro x y e
  refine hd _ _ fun i _ hi => ?_
  simp only [mix]
  split
  · rfl
  · exact e i (by omega) hi

theorem subT_step {n v b : Nat} {f : (Nat → Bool) → Bool} (hv : v < n) (hb : b < 2 ^ v) : subT n v b f = mk v (subT n (v + 1) b f) (subT n (v + 1) (b + 2 ^ v) f) := by
  unfold subT
  obtain ⟨k, hk⟩ : ∃ k, n - v = k + 1 := ⟨n - v - 1, by omega⟩
  have h1 : n - (v + 1) = k := by omega
  have h2 : n - (k + 1) = v := by omega
  rw [hk, h1]
  simp only [tr, h2, mix_lo hb, mix_hi hb]

theorem subT_const {n v b : Nat} {f : (Nat → Bool) → Bool} {c : Bool} (hd : Dep n 0 f) (hv : v ≤ n) (h : ∀ s, f (mix v b s) = c) : subT n v b f = .leaf c :=
  canon' (subT_wf b f hv).1 (n := n) trivial fun a => by rw [subT_fn hd hv, h]; rfl

theorem subT_zero {n : Nat} {f : (Nat → Bool) → Bool} : subT n 0 0 f = treeOf n f := by
  unfold subT treeOf
  simp only [mix_zero, Nat.sub_zero]

/-- Each assignment is that of a number. -/
theorem enc (s : Nat → Bool) : ∀ n, ∃ x, x < 2 ^ n ∧ ∀ i, i < n → x.testBit i = s i
  | 0 => ⟨0, by simp, fun i h => by omega⟩
  | n + 1 => by
    obtain ⟨x, hx, h⟩ := enc s n
    by_cases c : s n = true
    · refine ⟨2 ^ n + x, by rw [Nat.pow_succ]; omega, fun i hi => ?_⟩
      by_cases e : i = n
      · subst e; rw [Nat.testBit_two_pow_add_eq, Nat.testBit_lt_two_pow hx, c]; rfl
      · rw [Nat.testBit_two_pow_add_gt (by omega)]; exact h i (by omega)
    · have c : s n = false := by simpa using c
      refine ⟨x, by rw [Nat.pow_succ]; omega, fun i hi => ?_⟩
      by_cases e : i = n
      · subst e; rw [Nat.testBit_lt_two_pow hx, c]
      · exact h i (by omega)

theorem const_iff {n v b : Nat} {f : (Nat → Bool) → Bool} (hd : Dep n 0 f) (hv : v ≤ n) (hb : b < 2 ^ v) :
    (∀ x, x < 2 ^ n → x % 2 ^ v = b → f (bitsA x) = f (bitsA b)) ↔ ∀ s, f (mix v b s) = f (bitsA b) := by
  constructor
  · intro h s
    obtain ⟨x, hx, hs⟩ := enc (mix v b s) n
    have hm : x % 2 ^ v = b := by
      apply Nat.eq_of_testBit_eq
      intro i
      rw [Nat.testBit_mod_two_pow]
      by_cases hi : i < v
      · rw [hs i (by omega)]; simp [mix, hi]
      · have : b < 2 ^ i := Nat.lt_of_lt_of_le hb (Nat.pow_le_pow_right (by omega) (by omega))
        simp [hi, Nat.testBit_lt_two_pow this]
    rw [← h x hx hm]
    exact hd _ _ fun i _ hi => (hs i hi).symm
  · intro h x hx hm
    rw [← h (bitsA x)]
    refine hd _ _ fun i _ hi => ?_
    simp only [mix, bitsA]
    split
    · rename_i hi'
      rw [← hm, Nat.testBit_mod_two_pow]; simp [hi']
    · rfl

/-- The table of a function of n variables. -/
def tabOf (n : Nat) (f : (Nat → Bool) → Bool) : List Bool := (List.range (2 ^ n)).map fun x => f (bitsA x)

theorem tabOf_len (n : Nat) (f : (Nat → Bool) → Bool) : (tabOf n f).length = 2 ^ n := by simp [tabOf]
theorem tabOf_get {n x : Nat} (f : (Nat → Bool) → Bool) (h : x < 2 ^ n) : (tabOf n f)[x]? = some (f (bitsA x)) := by simp [tabOf, h]

/-! Lists of parts. -/
theorem post_sub {M : List T} : ∀ {t : T}, sub M t → post t M = M
  | .leaf _, _ => rfl
  | .node _ _ _, h => by rw [post]; exact if_pos h

theorem post_facts {M : List T} (hM : Cl M) (t : T) : ∃ N, post t M = M ++ N ∧ Cl (post t M) ∧ sub (post t M) t ∧ ∀ s, s ∈ N → s.size ≤ t.size := by
  obtain ⟨N, e, c, s, p, _⟩ := post_spec t M hM
  exact ⟨N, e, e ▸ c, e ▸ s, fun s hs => p _ (size_her t.size) (Nat.le_refl _) s hs⟩

theorem post_mk_eq {M : List T} (hM : Cl M) (v : Nat) (l : T) : post (mk v l l) M = post l (post l M) := by
  obtain ⟨_, _, _, s, _⟩ := post_facts hM l
  rw [post_sub s]
  simp [mk]

theorem post_mk_ne {M : List T} (hM : Cl M) {v : Nat} {l h : T} (hne : l ≠ h) :
    post (.node v l h) M = if .node v l h ∈ post h (post l M) then post h (post l M) else post h (post l M) ++ [.node v l h] := by
  obtain ⟨N1, e1, c1, s1, z1⟩ := post_facts hM l
  obtain ⟨N2, e2, c2, s2, z2⟩ := post_facts c1 h
  rw [post]
  by_cases hm : .node v l h ∈ M
  · have k := Cl_kids hM _ hm
    have p1 : post l M = M := post_sub k.1
    have p2 : post h (post l M) = M := by rw [p1]; exact post_sub k.2
    rw [if_pos hm, p2, if_pos hm]
  · rw [if_neg hm, if_neg]
    intro k
    rw [e2, e1] at k
    rcases List.mem_append.1 k with k | k
    · rcases List.mem_append.1 k with k | k
      · exact hm k
      · have := z1 _ k; simp only [T.size] at this; omega
    · have := z2 _ k; simp only [T.size] at this; omega

end Go.Proofs.YtjlmeikcfdanmaaGreatDoor.BT
