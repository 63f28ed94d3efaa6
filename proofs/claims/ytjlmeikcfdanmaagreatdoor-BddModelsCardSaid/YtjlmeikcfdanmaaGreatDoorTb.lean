/-
  TREES OF FUNCTIONS; the operations on trees. Plain Lean; nothing of the program stands here.
-/
import Derived.Test.YtjlmeikcfdanmaaGreatDoorTa
namespace Go.Proofs.YtjlmeikcfdanmaaGreatDoor.BT

noncomputable def mk (v : Nat) (l h : T) : T := if l = h then l else .node v l h

theorem mk_fn (v : Nat) (l h : T) (s : Nat → Bool) : fn (mk v l h) s = if s v then fn h s else fn l s := by
  unfold mk
  split
  · rename_i e; subst e; simp
  · rfl

theorem mk_wf {n v : Nat} {l h : T} (hv : v < n) (hl : Wf n l) (hh : Wf n h) (tl : v < top n l) (th : v < top n h) : Wf n (mk v l h) ∧ v ≤ top n (mk v l h) := by
  unfold mk
  split
  · exact ⟨hl, by omega⟩
  · rename_i e
    exact ⟨⟨hv, tl, th, e, hl, hh⟩, Nat.le_refl _⟩

/-- The function looks at the variables from v up to n only. -/
def Dep (n v : Nat) (f : (Nat → Bool) → Bool) : Prop := ∀ s r, (∀ i, v ≤ i → i < n → s i = r i) → f s = f r

theorem Dep.mono {n v w : Nat} {f : (Nat → Bool) → Bool} (h : Dep n v f) (k : w ≤ v) : Dep n w f := fun s r e => h s r fun i h1 h2 => e i (by omega) h2

theorem fn_dep {n : Nat} {t : T} (w : Wf n t) : Dep n (top n t) (fn t) := fun _ _ e => fn_agree w e

noncomputable def tr (n : Nat) : Nat → ((Nat → Bool) → Bool) → T
  | 0, f => .leaf (f fun _ => false)
  | k + 1, f => mk (n - (k + 1)) (tr n k fun s => f (upd s (n - (k + 1)) false)) (tr n k fun s => f (upd s (n - (k + 1)) true))

theorem tr_wf (n : Nat) : ∀ (k : Nat) (f : (Nat → Bool) → Bool), k ≤ n → Wf n (tr n k f) ∧ n - k ≤ top n (tr n k f)
  | 0, f, _ => ⟨trivial, by simp [tr, top]⟩
  | k + 1, f, h => by
    have a := tr_wf n k (fun s => f (upd s (n - (k + 1)) false)) (by omega)
    have b := tr_wf n k (fun s => f (upd s (n - (k + 1)) true)) (by omega)
    exact mk_wf (by omega) a.1 b.1 (by omega) (by omega)

theorem upd_same (s : Nat → Bool) (v : Nat) : upd s v (s v) = s := by
  funext i
  simp only [upd]
  split
  · rename_i h; rw [h]
  · rfl

theorem tr_fn (n : Nat) : ∀ (k : Nat) (f : (Nat → Bool) → Bool), k ≤ n → Dep n (n - k) f → ∀ s, fn (tr n k f) s = f s
  | 0, f, _, hd, s => hd _ _ (by intro i h1 h2; omega)
  | k + 1, f, h, hd, s => by
    have hd' : ∀ b, Dep n (n - k) (fun s => f (upd s (n - (k + 1)) b)) := by
      intro b s r e
      refine hd _ _ fun i h1 h2 => ?_
      simp only [upd]
      split
      · rfl
      · exact e i (by omega) h2
    simp only [tr, mk_fn]
    rw [tr_fn n k _ (by omega) (hd' false), tr_fn n k _ (by omega) (hd' true)]
    split
    · rename_i e; rw [← e, upd_same]
    · rename_i e
      have : s (n - (k + 1)) = false := by simpa using e
      rw [← this, upd_same]

/-- The tree of a function of n variables. -/
noncomputable def treeOf (n : Nat) (f : (Nat → Bool) → Bool) : T := tr n n f
theorem treeOf_wf (n : Nat) (f : (Nat → Bool) → Bool) : Wf n (treeOf n f) := (tr_wf n n f (Nat.le_refl _)).1
theorem treeOf_fn {n : Nat} {f : (Nat → Bool) → Bool} (h : Dep n 0 f) (s : Nat → Bool) : fn (treeOf n f) s = f s := tr_fn n n f (Nat.le_refl _) (h.mono (by omega)) s

theorem canon' {n : Nat} {t s : T} (ht : Wf n t) (hs : Wf n s) (h : ∀ a, fn t a = fn s a) : t = s := canon _ t s (Nat.le_refl _) ht hs h

/-! Negation. -/
def notT : T → T
  | .leaf b => .leaf (!b)
  | .node v l h => .node v (notT l) (notT h)

theorem notT_notT : ∀ t, notT (notT t) = t
  | .leaf b => by simp [notT]
  | .node v l h => by simp [notT, notT_notT l, notT_notT h]
theorem notT_inj {t s : T} (h : notT t = notT s) : t = s := by rw [← notT_notT t, h, notT_notT]
theorem top_not (n : Nat) : ∀ t, top n (notT t) = top n t
  | .leaf _ => rfl
  | .node _ _ _ => rfl
theorem Wf_not {n : Nat} : ∀ {t : T}, Wf n t → Wf n (notT t)
  | .leaf _, _ => trivial
  | .node v l h, w => ⟨w.1, by rw [top_not]; exact w.2.1, by rw [top_not]; exact w.2.2.1, fun e => w.2.2.2.1 (notT_inj e), Wf_not w.2.2.2.2.1, Wf_not w.2.2.2.2.2⟩
theorem fn_not : ∀ (t : T) (s : Nat → Bool), fn (notT t) s = !fn t s
  | .leaf _, _ => rfl
  | .node v l h, s => by
    simp only [notT, fn, fn_not l, fn_not h]
    split <;> rfl
theorem mem_not {t : T} {M : List T} : notT t ∈ M.map notT ↔ t ∈ M :=
  ⟨fun h => by obtain ⟨s, hs, e⟩ := List.mem_map.1 h; rwa [← notT_inj e], fun h => List.mem_map.2 ⟨t, h, rfl⟩⟩
theorem pos_not (t : T) : ∀ M : List T, pos (M.map notT) (notT t) = pos M t
  | [] => rfl
  | x :: M => by
    simp only [List.map_cons, pos, pos_not t M]
    by_cases h : x = t
    · simp [h]
    · have : notT x ≠ notT t := fun e => h (notT_inj e)
      simp [h, this]
def swp (r : Int) : Int := if r < 2 then 1 - r else r
theorem code_not (M : List T) : ∀ t : T, code (M.map notT) (notT t) = swp (code M t)
  | .leaf b => by cases b <;> simp [notT, code, swp]
  | .node v l h => by
    have := code_node_ge M v l h
    rw [swp, if_neg (by omega)]
    have := pos_not (.node v l h) M
    simp only [notT] at this
    simp only [notT, code, this]
theorem post_not : ∀ (t : T) (M : List T), post (notT t) (M.map notT) = (post t M).map notT
  | .leaf _, _ => rfl
  | .node v l h, M => by
    have hm := mem_not (t := .node v l h) (M := M)
    simp only [notT] at hm
    simp only [notT, post, hm]
    split
    · rfl
    · rw [post_not l M, post_not h (post l M)]; simp [notT]
theorem nds_not {L : List T} (hL : ∀ t, t ∈ L → kids L t) : nds (L.map notT) = (nds L).map fun x => (x.1, swp x.2.1, swp x.2.2) := by
  simp only [nds, List.map_map]
  apply List.map_congr_left
  intro t ht
  have := hL t ht
  revert this
  cases t with
  | leaf _ => exact fun h => h.elim
  | node v l h => intro _; simp [notT, nd, code_not]

/-! The parts of a tree by a variable. -/
def loT (v : Nat) : T → T
  | .leaf b => .leaf b
  | .node w l h => if w = v then l else .node w l h
def hiT (v : Nat) : T → T
  | .leaf b => .leaf b
  | .node w l h => if w = v then h else .node w l h

theorem fn_parts {n v : Nat} : ∀ {t : T}, Wf n t → v ≤ top n t → ∀ s, fn t s = if s v then fn (hiT v t) s else fn (loT v t) s
  | .leaf b, _, _, s => by simp [loT, hiT]
  | .node w l h, _, _, s => by
    by_cases e : w = v
    · subst e; simp [loT, hiT, fn]
    · simp [loT, hiT, e]
theorem lo_wf {n v : Nat} : ∀ {t : T}, Wf n t → v ≤ top n t → v < n → Wf n (loT v t) ∧ v < top n (loT v t)
  | .leaf b, w, _, hv => ⟨w, hv⟩
  | .node x l h, w, hx, hv => by
    by_cases e : x = v
    · subst e; simp [loT]; exact ⟨w.2.2.2.2.1, w.2.1⟩
    · simp [loT, e]; simp only [top] at hx ⊢; exact ⟨w, by omega⟩
theorem hi_wf {n v : Nat} : ∀ {t : T}, Wf n t → v ≤ top n t → v < n → Wf n (hiT v t) ∧ v < top n (hiT v t)
  | .leaf b, w, _, hv => ⟨w, hv⟩
  | .node x l h, w, hx, hv => by
    by_cases e : x = v
    · subst e; simp [hiT]; exact ⟨w.2.2.2.2.2, w.2.2.1⟩
    · simp [hiT, e]; simp only [top] at hx ⊢; exact ⟨w, by omega⟩
theorem lo_size (v : Nat) : ∀ t : T, (loT v t).size ≤ t.size
  | .leaf _ => Nat.le_refl _
  | .node w l h => by simp only [loT]; split <;> simp only [T.size] <;> omega
theorem hi_size (v : Nat) : ∀ t : T, (hiT v t).size ≤ t.size
  | .leaf _ => Nat.le_refl _
  | .node w l h => by simp only [hiT]; split <;> simp only [T.size] <;> omega
theorem lo_size_lt {n v : Nat} : ∀ {t : T}, top n t = v → v < n → (loT v t).size < t.size
  | .leaf _, h, hv => by simp only [top] at h; omega
  | .node w l h, e, _ => by simp only [top] at e; simp only [loT, if_pos e, T.size]; omega
theorem hi_size_lt {n v : Nat} : ∀ {t : T}, top n t = v → v < n → (hiT v t).size < t.size
  | .leaf _, h, hv => by simp only [top] at h; omega
  | .node w l h, e, _ => by simp only [top] at e; simp only [hiT, if_pos e, T.size]; omega
theorem lo_sub {L : List T} (hL : Cl L) (v : Nat) : ∀ {t : T}, sub L t → sub L (loT v t)
  | .leaf _, h => h
  | .node w l h, k => by
    simp only [loT]
    split
    · exact (Cl_kids hL _ k).1
    · exact k
theorem hi_sub {L : List T} (hL : Cl L) (v : Nat) : ∀ {t : T}, sub L t → sub L (hiT v t)
  | .leaf _, h => h
  | .node w l h, k => by
    simp only [hiT]
    split
    · exact (Cl_kids hL _ k).2
    · exact k

/-! Conjunction and disjunction. -/
def opb (d x y : Bool) : Bool := if d then x || y else x && y

/-- u is the tree of the operation on t and s. -/
def IsOp (n : Nat) (d : Bool) (t s u : T) : Prop := Wf n u ∧ min (top n t) (top n s) ≤ top n u ∧ ∀ a, fn u a = opb d (fn t a) (fn s a)

theorem IsOp.unique {n : Nat} {d : Bool} {t s u u' : T} (h : IsOp n d t s u) (h' : IsOp n d t s u') : u = u' :=
  canon' h.1 h'.1 fun a => by rw [h.2.2, h'.2.2]

theorem IsOp_dom_l {n : Nat} {d : Bool} {s : T} : IsOp n d (.leaf d) s (.leaf d) :=
  ⟨trivial, by simp only [top]; exact Nat.min_le_left _ _, fun a => by cases d <;> simp [fn, opb]⟩
theorem IsOp_dom_r {n : Nat} {d : Bool} {t : T} : IsOp n d t (.leaf d) (.leaf d) :=
  ⟨trivial, by simp only [top]; exact Nat.min_le_right _ _, fun a => by cases d <;> simp [fn, opb]⟩
theorem IsOp_both {n : Nat} {d : Bool} : IsOp n d (.leaf (!d)) (.leaf (!d)) (.leaf (!d)) :=
  ⟨trivial, by simp [top], fun a => by cases d <;> simp [fn, opb]⟩

theorem IsOp_mk {n : Nat} {d : Bool} {t s u1 u2 : T} (ht : Wf n t) (hs : Wf n s) (hv : min (top n t) (top n s) < n)
    (h1 : IsOp n d (loT (min (top n t) (top n s)) t) (loT (min (top n t) (top n s)) s) u1) (h2 : IsOp n d (hiT (min (top n t) (top n s)) t) (hiT (min (top n t) (top n s)) s) u2) :
    IsOp n d t s (mk (min (top n t) (top n s)) u1 u2) := by
  have vt : min (top n t) (top n s) ≤ top n t := Nat.min_le_left _ _
  have vs : min (top n t) (top n s) ≤ top n s := Nat.min_le_right _ _
  generalize hmv : min (top n t) (top n s) = v at *
  have a1 := (lo_wf ht vt hv).2
  have a2 := (lo_wf hs vs hv).2
  have b1 := (hi_wf ht vt hv).2
  have b2 := (hi_wf hs vs hv).2
  have w := mk_wf hv h1.1 h2.1 (Nat.lt_of_lt_of_le (Nat.lt_min.2 ⟨a1, a2⟩) h1.2.1) (Nat.lt_of_lt_of_le (Nat.lt_min.2 ⟨b1, b2⟩) h2.2.1)
  refine ⟨w.1, by rw [hmv]; exact w.2, fun a => ?_⟩
  rw [mk_fn, fn_parts ht vt a, fn_parts hs vs a, h1.2.2, h2.2.2]
  split <;> rfl

noncomputable def opT (n : Nat) (d : Bool) (t s : T) : T := treeOf n fun a => opb d (fn t a) (fn s a)
theorem IsOp_opT {n : Nat} {d : Bool} {t s u : T} (ht : Wf n t) (hs : Wf n s) (h : IsOp n d t s u) : u = opT n d t s := by
  refine canon' h.1 (treeOf_wf _ _) fun a => ?_
  rw [h.2.2, opT, treeOf_fn]
  intro x y e
  have e1 : fn t x = fn t y := fn_agree ht fun i _ h2 => e i (Nat.zero_le _) h2
  have e2 : fn s x = fn s y := fn_agree hs fun i _ h2 => e i (Nat.zero_le _) h2
  simp only [e1, e2]
theorem opT_wf (n : Nat) (d : Bool) (t s : T) : Wf n (opT n d t s) := treeOf_wf _ _
theorem opT_fn {n : Nat} {d : Bool} {t s : T} (ht : Wf n t) (hs : Wf n s) (a : Nat → Bool) : fn (opT n d t s) a = opb d (fn t a) (fn s a) := by
  rw [opT, treeOf_fn]
  intro x y e
  have e1 : fn t x = fn t y := fn_agree ht fun i _ h2 => e i (Nat.zero_le _) h2
  have e2 : fn s x = fn s y := fn_agree hs fun i _ h2 => e i (Nat.zero_le _) h2
  simp only [e1, e2]

/-! Restriction. -/
noncomputable def resT (v : Nat) (b : Bool) : T → T
  | .leaf c => .leaf c
  | .node w l h => if w = v then (if b then resT v b h else resT v b l) else mk w (resT v b l) (resT v b h)

theorem resT_spec {n v : Nat} {b : Bool} : ∀ {t : T}, Wf n t → Wf n (resT v b t) ∧ top n t ≤ top n (resT v b t) ∧ ∀ a, fn (resT v b t) a = fn t (upd a v b)
  | .leaf c, w => ⟨w, Nat.le_refl _, fun _ => rfl⟩
  | .node x l h, w => by
    obtain ⟨l1, l2, l3⟩ := resT_spec (v := v) (b := b) w.2.2.2.2.1
    obtain ⟨h1, h2, h3⟩ := resT_spec (v := v) (b := b) w.2.2.2.2.2
    have t1 := w.2.1
    have t2 := w.2.2.1
    by_cases e : x = v
    · subst e
      cases b with
      | true => simp only [resT, if_true]; exact ⟨h1, by show x ≤ _; omega, fun a => by rw [h3]; simp [fn, upd]⟩
      | false => simp only [resT, if_true, Bool.false_eq_true, if_false]; exact ⟨l1, by show x ≤ _; omega, fun a => by rw [l3]; simp [fn, upd]⟩
    · simp only [resT, if_neg e]
      have m := mk_wf w.1 l1 h1 (by omega) (by omega)
      refine ⟨m.1, m.2, fun a => ?_⟩
      rw [mk_fn, l3, h3]
      simp [fn, upd, e]

/-- The tree of one variable. -/
def varT (i : Nat) : T := .node i (.leaf false) (.leaf true)
theorem varT_wf {n i : Nat} (h : i < n) : Wf n (varT i) := ⟨h, h, h, by simp, trivial, trivial⟩
theorem varT_fn (i : Nat) (a : Nat → Bool) : fn (varT i) a = a i := by simp only [varT, fn]; cases a i <;> rfl

/-- How many nodes a tree's list has at most. -/
theorem post_len {n : Nat} {t : T} (w : Wf n t) : (post t []).length + 1 ≤ 2 ^ n := by
  obtain ⟨N, e, _, _, _, z⟩ := post_spec t [] Cl_nil
  rw [e, List.nil_append]
  have a := Wf_size w
  have b : 2 ^ (n - top n t) ≤ 2 ^ n := Nat.pow_le_pow_right (by omega) (by omega)
  omega

end Go.Proofs.YtjlmeikcfdanmaaGreatDoor.BT
