/-
  SEVERAL TEXTS IN ONE (joined by tools/assemble.py of this repository): Tb, Vh, Vi, Sc, Vj, Vk, Sd, Tc, Vm, Vn, Te, Sg, Wa, Aj, Ak, Al, Vf, Vl, Vb8, Am.
-/
import Derived.Test.YtjlmeikcfdanmaaGreatDoorQc5
import Derived.KernelRfl
set_option linter.unusedVariables false
set_option linter.unusedSimpArgs false
namespace Go.Proofs.YtjlmeikcfdanmaaGreatDoor.BT

noncomputable def mk (v : Nat) (l h : T) : T := if l = h then l else .node v l h

theorem mk_fn (v : Nat) (l h : T) (s : Nat → Bool) : fn (mk v l h) s = if s v then fn h s else fn l s := by
  unfold mk
  split
  · rename_i e; subst e; simp
  · rfl

theorem mk_wf {n v : Nat} {l h : T} (hv : v < n) (hl : Wf n l) (hh : Wf n h) (tl : v < top n l) (th : v < top n h) : Wf n (mk v l h) ∧ v ≤ top n (mk v l h) := by
  unfold mk
  split
  · exact ⟨hl, by omega⟩
  · rename_i e
    exact ⟨⟨hv, tl, th, e, hl, hh⟩, Nat.le_refl _⟩

/-- The function looks at the variables from v up to n only. -/
def Dep (n v : Nat) (f : (Nat → Bool) → Bool) : Prop := ∀ s r, (∀ i, v ≤ i → i < n → s i = r i) → f s = f r

theorem Dep.mono {n v w : Nat} {f : (Nat → Bool) → Bool} (h : Dep n v f) (k : w ≤ v) : Dep n w f := fun s r e => h s r fun i h1 h2 => e i (by omega) h2

noncomputable def tr (n : Nat) : Nat → ((Nat → Bool) → Bool) → T
  | 0, f => .leaf (f fun _ => false)
  | k + 1, f => mk (n - (k + 1)) (tr n k fun s => f (upd s (n - (k + 1)) false)) (tr n k fun s => f (upd s (n - (k + 1)) true))

theorem tr_wf (n : Nat) : ∀ (k : Nat) (f : (Nat → Bool) → Bool), k ≤ n → Wf n (tr n k f) ∧ n - k ≤ top n (tr n k f)
  | 0, f, _ => ⟨trivial, by simp [tr, top]⟩
  | k + 1, f, h => by
    have a := tr_wf n k (fun s => f (upd s (n - (k + 1)) false)) (by omega)
    have b := tr_wf n k (fun s => f (upd s (n - (k + 1)) true)) (by omega)
    exact mk_wf (by omega) a.1 b.1 (by omega) (by omega)

theorem upd_same (s : Nat → Bool) (v : Nat) : upd s v (s v) = s := by
  funext i
  simp only [upd]
  split
  · rename_i h; rw [h]
  · rfl

theorem tr_fn (n : Nat) : ∀ (k : Nat) (f : (Nat → Bool) → Bool), k ≤ n → Dep n (n - k) f → ∀ s, fn (tr n k f) s = f s
  | 0, f, _, hd, s => hd _ _ (by intro i h1 h2; omega)
  | k + 1, f, h, hd, s => by
    have hd' : ∀ b, Dep n (n - k) (fun s => f (upd s (n - (k + 1)) b)) := by
      intro b s r e
      refine hd _ _ fun i h1 h2 => ?_
      simp only [upd]
      split
      · rfl
      · exact e i (by omega) h2
    simp only [tr, mk_fn]
    rw [tr_fn n k _ (by omega) (hd' false), tr_fn n k _ (by omega) (hd' true)]
    split
    · rename_i e; rw [← e, upd_same]
    · rename_i e
      have : s (n - (k + 1)) = false := by simpa using e
      rw [← this, upd_same]

/-- The tree of a function of n variables. -/
noncomputable def treeOf (n : Nat) (f : (Nat → Bool) → Bool) : T := tr n n f
theorem treeOf_wf (n : Nat) (f : (Nat → Bool) → Bool) : Wf n (treeOf n f) := (tr_wf n n f (Nat.le_refl _)).1
theorem treeOf_fn {n : Nat} {f : (Nat → Bool) → Bool} (h : Dep n 0 f) (s : Nat → Bool) : fn (treeOf n f) s = f s := tr_fn n n f (Nat.le_refl _) (h.mono (by omega)) s

theorem canon' {n : Nat} {t s : T} (ht : Wf n t) (hs : Wf n s) (h : ∀ a, fn t a = fn s a) : t = s := canon _ t s (Nat.le_refl _) ht hs h

/-! Negation. -/
def notT : T → T
  | .leaf b => .leaf (!b)
  | .node v l h => .node v (notT l) (notT h)

theorem notT_notT : ∀ t, notT (notT t) = t
  | .leaf b => by simp [notT]
  | .node v l h => by simp [notT, notT_notT l, notT_notT h]
theorem notT_inj {t s : T} (h : notT t = notT s) : t = s := by rw [← notT_notT t, h, notT_notT]
theorem top_not (n : Nat) : ∀ t, top n (notT t) = top n t
  | .leaf _ => rfl
  | .node _ _ _ => rfl
theorem Wf_not {n : Nat} : ∀ {t : T}, Wf n t → Wf n (notT t)
  | .leaf _, _ => trivial
  | .node v l h, w => ⟨w.1, by rw [top_not]; exact w.2.1, by rw [top_not]; exact w.2.2.1, fun e => w.2.2.2.1 (notT_inj e), Wf_not w.2.2.2.2.1, Wf_not w.2.2.2.2.2⟩
theorem mem_not {t : T} {M : List T} : notT t ∈ M.map notT ↔ t ∈ M :=
  ⟨fun h => by obtain ⟨s, hs, e⟩ := List.mem_map.1 h; rwa [← notT_inj e], fun h => List.mem_map.2 ⟨t, h, rfl⟩⟩
theorem pos_not (t : T) : ∀ M : List T, pos (M.map notT) (notT t) = pos M t
  | [] => rfl
  | x :: M => by
    simp only [List.map_cons, pos, pos_not t M]
    by_cases h : x = t
    · simp [h]
    · have : notT x ≠ notT t := fun e => h (notT_inj e)
      simp [h, this]
def swp (r : Int) : Int := if r < 2 then 1 - r else r
theorem code_not (M : List T) : ∀ t : T, code (M.map notT) (notT t) = swp (code M t)
  | .leaf b => by cases b <;> simp [notT, code, swp]
  | .node v l h => by
    have := code_node_ge M v l h
    rw [swp, if_neg (by omega)]
    have := pos_not (.node v l h) M
    simp only [notT] at this
    simp only [notT, code, this]
theorem post_not : ∀ (t : T) (M : List T), post (notT t) (M.map notT) = (post t M).map notT
  | .leaf _, _ => rfl
  | .node v l h, M => by
    have hm := mem_not (t := .node v l h) (M := M)
    simp only [notT] at hm
    simp only [notT, post, hm]
    split
    · rfl
    · rw [post_not l M, post_not h (post l M)]; simp [notT]
theorem nds_not {L : List T} (hL : ∀ t, t ∈ L → kids L t) : nds (L.map notT) = (nds L).map fun x => (x.1, swp x.2.1, swp x.2.2) := by
  simp only [nds, List.map_map]
  apply List.map_congr_left
  intro t ht
  have := hL t ht
  revert this
  cases t with
  | leaf _ => exact fun h => h.elim
  | node v l h => intro _; simp [notT, nd, code_not]

/-! The parts of a tree by a variable. -/
def loT (v : Nat) : T → T
  | .leaf b => .leaf b
  | .node w l h => if w = v then l else .node w l h
def hiT (v : Nat) : T → T
  | .leaf b => .leaf b
  | .node w l h => if w = v then h else .node w l h

theorem fn_parts {n v : Nat} : ∀ {t : T}, Wf n t → v ≤ top n t → ∀ s, fn t s = if s v then fn (hiT v t) s else fn (loT v t) s
  | .leaf b, _, _, s => by simp [loT, hiT]
  | .node w l h, _, _, s => by
    by_cases e : w = v
    · subst e; simp [loT, hiT, fn]
    · simp [loT, hiT, e]
theorem lo_wf {n v : Nat} : ∀ {t : T}, Wf n t → v ≤ top n t → v < n → Wf n (loT v t) ∧ v < top n (loT v t)
  | .leaf b, w, _, hv => ⟨w, hv⟩
  | .node x l h, w, hx, hv => by
    by_cases e : x = v
    · subst e; simp [loT]; exact ⟨w.2.2.2.2.1, w.2.1⟩
    · simp [loT, e]; simp only [top] at hx ⊢; exact ⟨w, by omega⟩
theorem hi_wf {n v : Nat} : ∀ {t : T}, Wf n t → v ≤ top n t → v < n → Wf n (hiT v t) ∧ v < top n (hiT v t)
  | .leaf b, w, _, hv => ⟨w, hv⟩
  | .node x l h, w, hx, hv => by
    by_cases e : x = v
    · subst e; simp [hiT]; exact ⟨w.2.2.2.2.2, w.2.2.1⟩
    · simp [hiT, e]; simp only [top] at hx ⊢; exact ⟨w, by omega⟩
theorem lo_size (v : Nat) : ∀ t : T, (loT v t).size ≤ t.size
  | .leaf _ => Nat.le_refl _
  | .node w l h => by simp only [loT]; split <;> simp only [T.size] <;> omega
theorem hi_size (v : Nat) : ∀ t : T, (hiT v t).size ≤ t.size
  | .leaf _ => Nat.le_refl _
  | .node w l h => by simp only [hiT]; split <;> simp only [T.size] <;> omega
theorem lo_size_lt {n v : Nat} : ∀ {t : T}, top n t = v → v < n → (loT v t).size < t.size
  | .leaf _, h, hv => by simp only [top] at h; omega
  | .node w l h, e, _ => by simp only [top] at e; simp only [loT, if_pos e, T.size]; omega
theorem hi_size_lt {n v : Nat} : ∀ {t : T}, top n t = v → v < n → (hiT v t).size < t.size
  | .leaf _, h, hv => by simp only [top] at h; omega
  | .node w l h, e, _ => by simp only [top] at e; simp only [hiT, if_pos e, T.size]; omega
theorem lo_sub {L : List T} (hL : Cl L) (v : Nat) : ∀ {t : T}, sub L t → sub L (loT v t)
  | .leaf _, h => h
  | .node w l h, k => by
    simp only [loT]
    split
    · exact (Cl_kids hL _ k).1
    · exact k
theorem hi_sub {L : List T} (hL : Cl L) (v : Nat) : ∀ {t : T}, sub L t → sub L (hiT v t)
  | .leaf _, h => h
  | .node w l h, k => by
    simp only [hiT]
    split
    · exact (Cl_kids hL _ k).2
    · exact k

/-! Conjunction and disjunction. -/
def opb (d x y : Bool) : Bool := if d then x || y else x && y

/-- u is the tree of the operation on t and s. -/
def IsOp (n : Nat) (d : Bool) (t s u : T) : Prop := Wf n u ∧ min (top n t) (top n s) ≤ top n u ∧ ∀ a, fn u a = opb d (fn t a) (fn s a)

theorem IsOp_dom_l {n : Nat} {d : Bool} {s : T} : IsOp n d (.leaf d) s (.leaf d) :=
  ⟨trivial, by simp only [top]; exact Nat.min_le_left _ _, fun a => by cases d <;> simp [fn, opb]⟩
theorem IsOp_dom_r {n : Nat} {d : Bool} {t : T} : IsOp n d t (.leaf d) (.leaf d) :=
  ⟨trivial, by simp only [top]; exact Nat.min_le_right _ _, fun a => by cases d <;> simp [fn, opb]⟩
theorem IsOp_both {n : Nat} {d : Bool} : IsOp n d (.leaf (!d)) (.leaf (!d)) (.leaf (!d)) :=
  ⟨trivial, by simp [top], fun a => by cases d <;> simp [fn, opb]⟩

theorem IsOp_mk {n : Nat} {d : Bool} {t s u1 u2 : T} (ht : Wf n t) (hs : Wf n s) (hv : min (top n t) (top n s) < n)
    (h1 : IsOp n d (loT (min (top n t) (top n s)) t) (loT (min (top n t) (top n s)) s) u1) (h2 : IsOp n d (hiT (min (top n t) (top n s)) t) (hiT (min (top n t) (top n s)) s) u2) :
    IsOp n d t s (mk (min (top n t) (top n s)) u1 u2) := by
  have vt : min (top n t) (top n s) ≤ top n t := Nat.min_le_left _ _
  have vs : min (top n t) (top n s) ≤ top n s := Nat.min_le_right _ _
  generalize hmv : min (top n t) (top n s) = v at *
  have a1 := (lo_wf ht vt hv).2
  have a2 := (lo_wf hs vs hv).2
  have b1 := (hi_wf ht vt hv).2
  have b2 := (hi_wf hs vs hv).2
  have w := mk_wf hv h1.1 h2.1 (Nat.lt_of_lt_of_le (Nat.lt_min.2 ⟨a1, a2⟩) h1.2.1) (Nat.lt_of_lt_of_le (Nat.lt_min.2 ⟨b1, b2⟩) h2.2.1)
  refine ⟨w.1, by rw [hmv]; exact w.2, fun a => ?_⟩
  rw [mk_fn, fn_parts ht vt a, fn_parts hs vs a, h1.2.2, h2.2.2]
  split <;> rfl

noncomputable def opT (n : Nat) (d : Bool) (t s : T) : T := treeOf n fun a => opb d (fn t a) (fn s a)
theorem IsOp_opT {n : Nat} {d : Bool} {t s u : T} (ht : Wf n t) (hs : Wf n s) (h : IsOp n d t s u) : u = opT n d t s := by
  refine canon' h.1 (treeOf_wf _ _) fun a => ?_
  rw [h.2.2, opT, treeOf_fn]
  intro x y e
  have e1 : fn t x = fn t y := fn_agree ht fun i _ h2 => e i (Nat.zero_le _) h2
  have e2 : fn s x = fn s y := fn_agree hs fun i _ h2 => e i (Nat.zero_le _) h2
  simp only [e1, e2]
theorem opT_wf (n : Nat) (d : Bool) (t s : T) : Wf n (opT n d t s) := treeOf_wf _ _
/-! Restriction. -/
/-- The tree of one variable. -/
def varT (i : Nat) : T := .node i (.leaf false) (.leaf true)
theorem varT_wf {n i : Nat} (h : i < n) : Wf n (varT i) := ⟨h, h, h, by simp, trivial, trivial⟩
/-- How many nodes a tree's list has at most. -/
theorem post_len {n : Nat} {t : T} (w : Wf n t) : (post t []).length + 1 ≤ 2 ^ n := by
  obtain ⟨N, e, _, _, _, z⟩ := post_spec t [] Cl_nil
  rw [e, List.nil_append]
  have a := Wf_size w
  have b : 2 ^ (n - top n t) ≤ 2 ^ n := Nat.pow_le_pow_right (by omega) (by omega)
  omega

end Go.Proofs.YtjlmeikcfdanmaaGreatDoor.BT

namespace Go.Proofs.YtjlmeikcfdanmaaGreatDoor.DE.V
open Go BT

@[simp] theorem nilck_bx (id o : Nat) : nilckD (.bx id o) = some (.bx id o) := (rfl)
@[simp] theorem mn_i (k : IntKind) (a b : Int) : mnD (.i k a) (.i k b) = some (.i k (if b < a then b else a)) := by simp [mnD]
@[simp] theorem mx_i (k : IntKind) (a b : Int) : mxD (.i k a) (.i k b) = some (.i k (if b > a then b else a)) := by simp [mxD]
@[simp] theorem bld_nil (z : List D) : bldV z [] = some z := (rfl)
theorem jn_eq {α : Type} (K : α) (X : α → Prop) : jn K X = X K := rfl
theorem jn_intro {α : Type} {K : α} {X : α → Prop} (P : α → Prop) (hK : P K) (hX : ∀ k, P k → X k) : jn K X := hX K hK

def eNdK (x : Nd) : D := .agg (eNd x)
def eRowK (x : Row) : D := .agg (eRow x)
theorem keyE_ndK : KeyE (.agg [.i, .i, .i]) eNdK := keyE_nd
theorem keyE_rowK : KeyE (.agg [.i, .i]) eRowK := keyE_row

/-! The entry of a key that is not there: 'mentV', 'estV'. -/
section
variable {α β : Type} [DecidableEq α] {kk : KK} {ek : α → D} {ev : β → D}
theorem posD_none (h : KeyE kk ek) (a : α) : ∀ (es : List (α × β)) (j : Nat), assoc a es = none → posD kk (ek a) (eMap ek ev es) j = some none
  | [], _, _ => rfl
  | (k, v) :: es, j, q => by
    simp only [assoc] at q
    split at q
    · cases q
    · rename_i e
      simp only [eMap, List.map_cons, posD, h a k, e, decide_false]
      exact posD_none h a es (j + 1) q

theorem mentV_new (h : KeyE kk ek) {a : α} (hk : isKey kk (ek a) = true) {z : D} {S : Store} {id : Nat} {es : List (α × β)} (hS : sget S id = some (.map (eMap ek ev es))) (ha : assoc a es = none) :
    mentV kk z S (.mp id) (ek a) = some (.tup [z, .i .i64 es.length], sset S id (.map (eMap ek ev es ++ [(ek a, z)]))) := by
  simp only [mentV, hk, if_true, hS, posD_none h a es 0 ha]
  simp [eMap]

theorem valD_last (v : D) (k : D) (u : D) : ∀ es : List (D × D), valD v es.length (es ++ [(k, u)]) = es ++ [(k, v)]
  | [] => rfl
  | e :: es => by simp [valD, valD_last v k u es]

theorem estV_new {S : Store} {id : Nat} {es : List (D × D)} {k u v : D} (hS : sget S id = some (.map (es ++ [(k, u)]))) :
    estV S (.mp id) (.i .i64 es.length) v = some (sset S id (.map (es ++ [(k, v)]))) := by
  simp only [estV, hS]
  rw [if_pos ⟨by omega, by simp; omega⟩]
  simp [valD_last]
end

/-- The maker's nodes and its map, in the variable ik; what pr names is not the maker's. -/
def MkI (ik : Nat) (pr : Nat → Prop) (M : List T) (S : Store) : Prop :=
  ∃ n o u, sget S ik = some (.box [.sl 3 n ((nds M).map eNd) o, u]) ∧ Liv S n M.length o ∧ (∀ t, o = .tok t → ¬ pr t) ∧
    ((u = .nilm ∧ M = []) ∨ ∃ iu, u = .mp iu ∧ ¬ pr iu ∧ sget S iu = some (.map (eMap eNdK eI (M.map fun s => (nd M s, code M s)))))

noncomputable def addT (M : List T) (t : T) : List T := match t with
  | .leaf _ => M
  | .node v l h => if .node v l h ∈ M then M else M ++ [.node v l h]

theorem assoc_nd {M : List T} (hM : Cl M) {v : Nat} {l h : T} (k : kids M (.node v l h)) : ∀ (N : List T), (∀ s, s ∈ N → s ∈ M) → assoc (nd M (.node v l h)) (N.map fun s => (nd M s, code M s)) = if T.node v l h ∈ N then some (code M (.node v l h)) else none
  | [], _ => by simp [assoc]
  | s :: N, hN => by
    simp only [List.map_cons, assoc, assoc_nd hM k N (fun x hx => hN x (List.mem_cons_of_mem _ hx))]
    by_cases e : T.node v l h = s
    · subst e; simp
    · have : nd M (.node v l h) ≠ nd M s := fun h' => e (nd_inj k (Cl_kids hM s (hN s (by simp))) h')
      simp [this, e]

theorem maps_snoc {M : List T} {t : T} (h : Cl (M ++ [t])) : (M ++ [t]).map (fun s => (nd (M ++ [t]) s, code (M ++ [t]) s)) = M.map (fun s => (nd M s, code M s)) ++ [(nd M t, (M.length : Int) + 2)] := by
  obtain ⟨h1, h2, h3⟩ := Cl_snoc.1 h
  rw [List.map_append]
  congr 1
  · apply List.map_congr_left
    intro s hs
    rw [nd_app [t] (Cl_kids h1 s hs), code_app [t] (sub_of h1 s hs)]
  · simp only [List.map_cons, List.map_nil, nd_app [t] h3]
    congr 2
    revert h2 h3
    cases t with
    | leaf _ => exact fun _ h => h.elim
    | node v l h =>
      intro h2 _
      simp only [code]
      rw [pos_new [] h2]

theorem v80 (ik : Nat) (pr : Nat → Prop) {M : List T} (hM : Cl M) (hl : M.length < 1000000) (v : Nat) (l h : T) (kl : sub M l) (kh : sub M h) (S : Store) (hI : MkI ik pr M S) (hmk : ¬ pr ik) (hpl : ∀ j, pr j → j < S.length) :
    ∃ S', call dp 80 [.bx ik 0, .i .i64 v, .i .i64 (code M l), .i .i64 (code M h)] S = some (.i .i64 (code (addT M (mk v l h)) (mk v l h)), S') ∧ MkI ik pr (addT M (mk v l h)) S' ∧ PresB ik S S' ∧ (∀ j e, pr j → sget S j = some e → sget S' j = some e) ∧ S.length ≤ S'.length := by
  let P : D → Store → Prop := fun r S' => r = .i .i64 (code (addT M (mk v l h)) (mk v l h)) ∧ MkI ik pr (addT M (mk v l h)) S' ∧ PresB ik S S' ∧ (∀ j e, pr j → sget S j = some e → sget S' j = some e) ∧ S.length ≤ S'.length
  obtain ⟨r, S', e, rfl, h1, h2, h3, h4⟩ := f80 (.bx ik 0) (.i .i64 v) (.i .i64 (code M l)) (.i .i64 (code M h)) S P (by
    simp only [s80, bin_eql]
    by_cases e : l = h
    · subst e
      simp
      have hm : mk v l l = l := by simp [mk]
      have ha : addT M l = M := by
        revert kl
        cases l with
        | leaf _ => intro _; rfl
        | node _ _ _ => intro k; simp only [addT]; exact if_pos k
      exact ⟨by rw [hm, ha], by rw [hm, ha]; exact hI, PresB.refl _ _, fun _ _ _ e => e, Nat.le_refl _⟩
    · have hne : ¬ code M l = code M h := fun e' => e (code_inj kl kh e')
      have hm : mk v l h = .node v l h := by simp [mk, e]
      have kk : kids M (.node v l h) := ⟨kl, kh⟩
      obtain ⟨n, o, u, j1, j2, jp, j3⟩ := hI
      have gk := sget_lt j1
      obtain ⟨c, hbin, hcu⟩ : ∃ c, binD .eql .map u .nilm = some (.b c) ∧ (c = true ↔ u = .nilm) := by
        rcases j3 with ⟨rfl, _⟩ | ⟨iu, rfl, _⟩
        · exact ⟨true, rfl, by simp⟩
        · exact ⟨false, rfl, by simp⟩
      simp [-OX_b, hne, bldV, j1, show ¬ ik = S.length by omega, hbin]
      rw [show [D.i .i64 (v : Int), .i .i64 (code M l), .i .i64 (code M h)] = eNd (nd M (.node v l h)) from rfl]
      refine jn_intro (fun (k : D → D → D → Store → Prop) => ∀ (y : D) (iu : Nat) (S15 : Store), sget S15 S.length = some (.box (eNd (nd M (.node v l h)))) → sget S15 ik = some (.box [.sl 3 n ((nds M).map eNd) o, .mp iu]) → Liv S15 n M.length o → ¬ pr iu → iu ≠ ik → iu ≠ S.length →
        sget S15 iu = some (.map (eMap eNdK eI (M.map fun s => (nd M s, code M s)))) → PresB ik S S15 → (∀ j e, pr j → sget S j = some e → sget S15 j = some e) → S.length ≤ S15.length → k (.bx ik 0) (.bx S.length 0) y S15) ?_ ?_
      · intro y iu S15 b0 b1 b2 b3 b3k b3s b4 b5 b6 b7
        have hlk := lkD'_mp keyE_ndK (a := nd M (.node v l h)) (isKey_nd _) b4 true (.i .i64 0)
        rw [assoc_nd hM kk M (fun _ h => h)] at hlk
        simp only [eNdK] at hlk
        simp [b0, b1, hlk, jn_eq]
        by_cases hin : T.node v l h ∈ M
        · simp [hin]
          have ha : addT M (mk v l h) = M := by rw [hm]; simp only [addT]; exact if_pos hin
          exact ⟨by rw [ha, hm]; rfl, by rw [ha]; exact ⟨n, o, _, b1, b2, jp, .inr ⟨iu, rfl, b3, b4⟩⟩, b5, b6, b7⟩
        · have ha : addT M (mk v l h) = M ++ [.node v l h] := by rw [hm]; simp only [addT]; exact if_neg hin
          have hc : Cl (M ++ [.node v l h]) := Cl_snoc.2 ⟨hM, hin, kk⟩
          have hlk : ((nds M).map eNd).length = M.length := by rw [List.length_map, nds_len]
          obtain ⟨t', S4, q4, l4, p4, m4, z4, zt, k4⟩ := app_liv (k := 3) (n' := false) (xs := (nds M).map eNd) (ys := [eNd (nd M (.node v l h))]) (o' := .ro) (by rw [hlk]; exact b2) (by rw [hlk]; simp [maxLenD]; omega) (by simp)
          have c0 := p4 _ _ b0
          have c1 := p4 _ _ b1
          have c4 := m4 _ _ b4
          have c6 : ∀ j e, pr j → sget S j = some e → sget S4 j = some e := fun j e hj he => k4 _ _ (b6 j e hj he) (fun t ht hjt => jp t ht (hjt ▸ hj))
          have hX : (nds M).map eNd ++ [eNd (nd M (.node v l h))] = (nds (M ++ [.node v l h])).map eNd := by rw [nds_snoc hc, List.map_append]; rfl
          rw [hX] at q4
          simp [hin, b0, b1, q4, c0, c1, nds_len]
          rw [wrap64 ⟨by omega, by omega⟩]
          have s1 : sget (sset S4 ik (.box [.sl 3 false ((nds (M ++ [.node v l h])).map eNd) (.tok t'), .mp iu])) ik = _ := sget_sset _ (sget_lt c1)
          have s0 : sget (sset S4 ik (.box [.sl 3 false ((nds (M ++ [.node v l h])).map eNd) (.tok t'), .mp iu])) S.length = _ := (sget_sset_ne _ (by omega)).trans c0
          have su : sget (sset S4 ik (.box [.sl 3 false ((nds (M ++ [.node v l h])).map eNd) (.tok t'), .mp iu])) iu = _ := (sget_sset_ne _ b3k).trans c4
          have sm : ∀ j e, pr j → sget S j = some e → sget (sset S4 ik (.box [.sl 3 false ((nds (M ++ [.node v l h])).map eNd) (.tok t'), .mp iu])) j = some e := fun j e hj he => (sget_sset_ne _ (by rintro rfl; exact hmk hj)).trans (c6 j e hj he)
          have st : sget (sset S4 ik (.box [.sl 3 false ((nds (M ++ [.node v l h])).map eNd) (.tok t'), .mp iu])) t' = _ := (sget_sset_ne _ (by rintro rfl; rw [c1] at l4; cases l4)).trans l4
          have P5 : PresB ik S (sset S4 ik (.box [.sl 3 false ((nds (M ++ [.node v l h])).map eNd) (.tok t'), .mp iu])) := fun id cs hid e => (sget_sset_ne _ hid).trans (p4 _ _ (b5 _ _ hid e))
          have z5 : (sset S4 ik (.box [.sl 3 false ((nds (M ++ [.node v l h])).map eNd) (.tok t'), .mp iu])).length = S15.length + 1 := by rw [sset_len]; exact z4
          simp only [s0]
          generalize sset S4 ik (.box [.sl 3 false ((nds (M ++ [.node v l h])).map eNd) (.tok t'), .mp iu]) = S5 at *
          have hass : assoc (nd M (.node v l h)) (M.map fun s => (nd M s, code M s)) = none := by rw [assoc_nd hM kk M (fun _ h => h), if_neg hin]
          have hme := mentV_new keyE_ndK (ev := eI) (z := .i .i64 0) (isKey_nd _) su hass
          simp only [eNdK] at hme
          have hml : (eMap eNdK eI (M.map fun s => (nd M s, code M s))).length = M.length := by simp [eMap]
          have hes : estV (sset S5 iu (Ent.map (eMap eNdK eI (M.map fun s => (nd M s, code M s)) ++ [(D.agg (eNd (nd M (.node v l h))), D.i .i64 0)]))) (.mp iu) (.i .i64 M.length) (.i .i64 ((M.length : Int) + 2)) =
              some (sset (sset S5 iu (Ent.map (eMap eNdK eI (M.map fun s => (nd M s, code M s)) ++ [(D.agg (eNd (nd M (.node v l h))), D.i .i64 0)]))) iu (Ent.map (eMap eNdK eI (M.map fun s => (nd M s, code M s)) ++ [(D.agg (eNd (nd M (.node v l h))), D.i .i64 ((M.length : Int) + 2))]))) := by
            have := estV_new (v := .i .i64 ((M.length : Int) + 2)) (sget_sset (Ent.map (eMap eNdK eI (M.map fun s => (nd M s, code M s)) ++ [(.agg (eNd (nd M (.node v l h))), .i .i64 0)])) (sget_lt su))
            rwa [hml] at this
          simp only [ldE_box, rdK_nd, OX_some, deq_self, true_and]
          rw [show (M.map fun s => (nd M s, code M s)).length = M.length by simp] at hme
          rw [hme]
          simp only [OX_some, ext_eq, List.getElem?_cons_succ, List.getElem?_cons_zero]
          rw [hes]
          simp only [OX_some]
          have hX2 : eMap eNdK eI (M.map fun s => (nd M s, code M s)) ++ [(D.agg (eNd (nd M (.node v l h))), D.i .i64 ((M.length : Int) + 2))] = eMap eNdK eI ((M ++ [T.node v l h]).map fun s => (nd (M ++ [T.node v l h]) s, code (M ++ [T.node v l h]) s)) := by
            rw [maps_snoc hc]; simp [eMap, eNdK, eI]
          rw [hX2]
          have lu := sget_lt su
          refine ⟨?_, ?_, ?_, ?_, ?_⟩
          · rw [ha, hm]
            simp only [code]
            rw [pos_new [] hin]
          · rw [ha]
            exact ⟨false, .tok t', .mp iu, (sget_sset_ne _ (Ne.symm b3k)).trans ((sget_sset_ne _ (Ne.symm b3k)).trans s1),
              .inr ⟨rfl, t', rfl, (sget_sset_ne _ (by rintro rfl; rw [su] at st; cases st)).trans ((sget_sset_ne _ (by rintro rfl; rw [su] at st; cases st)).trans st)⟩,
              (fun t ht hp => by injection ht with ht; subst ht; have := hpl _ hp; omega), .inr ⟨iu, rfl, b3, by rw [sget_sset _ (by rw [sset_len]; exact lu)]⟩⟩
          · intro id cs hid e
            have e5 := P5 _ _ hid e
            have : id ≠ iu := by rintro rfl; rw [su] at e5; cases e5
            exact (sget_sset_ne _ this).trans ((sget_sset_ne _ this).trans e5)
          · intro j e hj he
            have : j ≠ iu := by rintro rfl; exact b3 hj
            exact (sget_sset_ne _ this).trans ((sget_sset_ne _ this).trans (sm j e hj he))
          · rw [sset_len, sset_len]; omega
      · intro k hK
        rcases j3 with ⟨rfl, rfl⟩ | ⟨iu, rfl, j4, j5⟩
        · have hc : c = true := hcu.2 rfl
          subst hc
          simp [-sset_cons, show ¬ ik = S.length + 1 by omega]
          have S15 : ∀ j, j ≠ ik → j ≠ S.length → j ≠ S.length + 1 → sget (sset (Ent.map [] :: Ent.box (eNd (nd [] (.node v l h))) :: S) ik (.box [.sl 3 n ((nds []).map eNd) o, .mp (S.length + 1)])) j = sget S j := by
            intro j h1 h2 h3
            rw [sget_sset_ne _ h1]
            simp [h2, h3]
          refine hK _ (S.length + 1) _ ?_ ?_ ?_ (fun hp => by have := hpl _ hp; omega) (by omega) (by omega) ?_ ?_ ?_ (by rw [sset_len]; simp; omega)
          · rw [sget_sset_ne _ (by omega)]; simp
          · exact sget_sset _ (by simp; omega)
          · rcases j2 with j2 | ⟨l1, t, l2, l3⟩
            · exact .inl j2
            · exact .inr ⟨l1, t, l2, by rw [S15 t (by rintro rfl; rw [j1] at l3; cases l3) (by have := sget_lt l3; omega) (by have := sget_lt l3; omega)]; exact l3⟩
          · rw [sget_sset_ne _ (by omega)]; simp [eMap]
          · intro id cs hid e
            have := sget_lt e
            rw [S15 id hid (by omega) (by omega)]; exact e
          · intro j e hj he
            have := sget_lt he
            rw [S15 j (by rintro rfl; exact hmk hj) (by omega) (by omega)]; exact he
        · have hc : c = false := by rw [← Bool.not_eq_true, hcu]; intro h; cases h
          subst hc
          simp
          have giu := sget_lt j5
          exact hK _ iu _ (by simp) (sget_push j1) (j2.push _) j4 (by rintro rfl; rw [j1] at j5; cases j5) (by omega) (sget_push j5) (PresB.push _ _ _) (fun _ _ _ he => sget_push he) (by simp))
  exact ⟨S', e, h1, h2, h3, h4⟩

end Go.Proofs.YtjlmeikcfdanmaaGreatDoor.DE.V

namespace Go.Proofs.YtjlmeikcfdanmaaGreatDoor.DE.V
open Go BT

theorem v95 (nl nl' : Bool) (ord : List Row) {L : List T} (root : Int) (hL : Cl L) (hb : L.length ≤ 1000000) (t : T) (ht : sub L t) (v : Nat) (hv : v < ord.length) :
    isoCall (call dp) 95 [eB nl nl' ord (nds L) root, .i .i64 (code L t), .i .i64 v] = some (.tup [.i .i64 (code L (loT v t)), .i .i64 (code L (hiT v t))]) := by
  apply i95 _ _ _ _ (by simp [noRefL]) rfl
  have h0 := code_nonneg L t
  have h1 := code_lt ht
  have e77 := v77 nl nl' ord (nds L) root (code L t) ⟨by omega, by omega⟩ (by rw [nds_len]; exact h1)
  rw [lev_code ht] at e77
  simp only [eB] at e77
  simp [s95, e77]
  by_cases e : top ord.length t = v
  · have e' : (top ord.length t : Int) = v := by omega
    cases t with
    | leaf b => simp only [top] at e; omega
    | node w l h =>
      simp only [top] at e e'
      subst e
      have hge := code_node_ge L w l h
      have hpos : (code L (.node w l h) - 2).toNat = pos L (.node w l h) := by simp only [code]; omega
      simp [top]
      rw [wrap64 ⟨by omega, by omega⟩, iaD_nds' _ (by omega) (by rw [hpos]; exact nds_get ht)]
      simp [nd, loT, hiT]
  · have e' : ¬ (top ord.length t : Int) = v := by omega
    cases t with
    | leaf b => simp [e', loT, hiT]
    | node w l h => simp only [top] at e; simp [e', loT, hiT, e]

def dI (d : Bool) : Int := if d then 1 else 0

theorem code_dI (M : List T) (d : Bool) : code M (.leaf d) = dI d := by cases d <;> rfl
theorem code_eq_dI (L : List T) (d : Bool) : ∀ t : T, code L t = dI d ↔ t = .leaf d
  | .leaf b => by cases b <;> cases d <;> simp [code, dI]
  | .node v l h => by
    have := code_node_ge L v l h
    constructor
    · intro e; cases d <;> simp [dI] at e <;> omega
    · intro e; cases e
theorem code_lt2 (L : List T) : ∀ t : T, code L t < 2 ↔ ∃ b, t = .leaf b
  | .leaf b => ⟨fun _ => ⟨b, rfl⟩, fun _ => code_leaf_lt L b⟩
  | .node v l h => ⟨fun e => by have := code_node_ge L v l h; omega, fun ⟨b, e⟩ => by cases e⟩

/-- What the combination finds in the store, beside the map of what is done and the maker. -/
def ApI (d : Bool) (La Lb : List T) (na na' nb nb' : Bool) (oa ob : List Row) (ra rb : Int) (i2 i3 ia ib i6 ik im : Nat) (S : Store) : Prop :=
  sget S i2 = some (.box [.i .i64 (dI d)]) ∧ sget S i3 = some (.box [.mp im]) ∧ sget S ia = some (.box [eRows na oa, eNds na' (nds La), .i .i64 ra]) ∧ sget S ib = some (.box [eRows nb ob, eNds nb' (nds Lb), .i .i64 rb]) ∧
  sget S i6 = some (.box [.fn 94 [.bx i2 0, .bx i3 0, .bx ia 0, .bx ib 0, .bx i6 0, .bx ik 0]])

/-- What the map of what is done holds. -/
def DnI (n : Nat) (d : Bool) (La Lb M : List T) (done : List (Row × Int)) : Prop :=
  (done.map (·.1)).Nodup ∧ ∀ e, e ∈ done → ∃ t s u, sub La t ∧ sub Lb s ∧ e = ((code La t, code Lb s), code M u) ∧ sub M u ∧ IsOp n d t s u

theorem DnI.app {n : Nat} {d : Bool} {La Lb M : List T} {done : List (Row × Int)} (N : List T) (h : DnI n d La Lb M done) : DnI n d La Lb (M ++ N) done :=
  ⟨h.1, fun e he => by
    obtain ⟨t, s, u, a, b, c, k, l⟩ := h.2 e he
    exact ⟨t, s, u, a, b, by rw [c, code_app N k], sub_app N k, l⟩⟩

theorem DnI.len {n : Nat} {d : Bool} {La Lb M : List T} {done : List (Row × Int)} (h : DnI n d La Lb M done) : done.length ≤ (La.length + 2) * (Lb.length + 2) := by
  have := nodup_len (L := (List.range (La.length + 2)).flatMap fun (i : Nat) => (List.range (Lb.length + 2)).map fun (j : Nat) => ((i : Int), (j : Int))) h.1 (by
    intro k hk
    obtain ⟨e, he, rfl⟩ := List.mem_map.1 hk
    obtain ⟨t, s, u, a, b, c, _, _⟩ := h.2 e he
    rw [c]
    have := code_nonneg La t
    have := code_lt a
    have := code_nonneg Lb s
    have := code_lt b
    refine List.mem_flatMap.2 ⟨(code La t).toNat, List.mem_range.2 (by omega), List.mem_map.2 ⟨(code Lb s).toNat, List.mem_range.2 (by omega), ?_⟩⟩
    rw [Int.toNat_of_nonneg (by omega), Int.toNat_of_nonneg (by omega)])
  rw [List.length_map] at this
  refine Nat.le_trans this (Nat.le_of_eq ?_)
  generalize La.length + 2 = p
  generalize Lb.length + 2 = q
  induction p with
  | zero => simp
  | succ p ih => rw [List.range_succ, List.flatMap_append, List.length_append, ih]; simp [Nat.succ_mul]

theorem ApI.pres {d : Bool} {La Lb : List T} {na na' nb nb' : Bool} {oa ob : List Row} {ra rb : Int} {i2 i3 ia ib i6 ik im : Nat} {S S' : Store} (h : ApI d La Lb na na' nb nb' oa ob ra rb i2 i3 ia ib i6 ik im S) (p : PresB ik S S')
    (k2 : i2 ≠ ik) (k3 : i3 ≠ ik) (ka : ia ≠ ik) (kb : ib ≠ ik) (k6 : i6 ≠ ik) : ApI d La Lb na na' nb nb' oa ob ra rb i2 i3 ia ib i6 ik im S' :=
  ⟨p _ _ k2 h.1, p _ _ k3 h.2.1, p _ _ ka h.2.2.1, p _ _ kb h.2.2.2.1, p _ _ k6 h.2.2.2.2⟩

theorem assoc_mem {α β : Type} [DecidableEq α] {a : α} {b : β} : ∀ {es : List (α × β)}, assoc a es = some b → (a, b) ∈ es
  | (k, v) :: es, h => by
    simp only [assoc] at h
    split at h
    · rename_i e; injection h with h; subst e h; simp
    · exact List.mem_cons_of_mem _ (assoc_mem h)

theorem sub_addT {M : List T} {v : Nat} {l h : T} (kl : sub M l) : sub (addT M (mk v l h)) (mk v l h) := by
  unfold mk
  split
  · revert kl
    cases l with
    | leaf _ => exact fun k => k
    | node _ _ _ => intro k; simp only [addT, sub] at *; rw [if_pos k]; exact k
  · simp only [addT, sub]
    split
    · assumption
    · simp

theorem addT_ext {M : List T} (hM : Cl M) {v : Nat} {l h : T} (kl : sub M l) (kh : sub M h) : (∃ N, addT M (mk v l h) = M ++ N) ∧ Cl (addT M (mk v l h)) ∧ (addT M (mk v l h)).length ≤ M.length + 1 := by
  unfold mk
  split
  · have ha : addT M l = M := by
      revert kl
      cases l with
      | leaf _ => intro _; rfl
      | node _ _ _ => intro k; simp only [addT]; exact if_pos k
    rw [ha]; exact ⟨⟨[], by simp⟩, hM, by omega⟩
  · simp only [addT]
    split
    · exact ⟨⟨[], by simp⟩, hM, by omega⟩
    · rename_i hn; exact ⟨⟨_, rfl⟩, Cl_snoc.2 ⟨hM, hn, kl, kh⟩, by simp⟩

theorem wfs {n : Nat} {L : List T} (h : ∀ t, t ∈ L → Wf n t) : ∀ {t : T}, sub L t → Wf n t
  | .leaf _, _ => trivial
  | .node _ _ _, k => h _ k

theorem v94 (d : Bool) {La Lb : List T} (hLa : Cl La) (hLb : Cl Lb) (na na' nb nb' : Bool) (oa ob : List Row) (ra rb : Int) (i2 i3 ia ib i6 ik im : Nat)
    (wa : ∀ t, t ∈ La → Wf oa.length t) (wb : ∀ t, t ∈ Lb → Wf oa.length t) (hab : ob.length = oa.length) (hz : (La.length + 2) * (Lb.length + 2) ≤ 1000000)
    (za : La.length ≤ 4096) (zb : Lb.length ≤ 4096)
    (k2 : i2 ≠ ik) (k3 : i3 ≠ ik) (ka : ia ≠ ik) (kb : ib ≠ ik) (k6 : i6 ≠ ik) : ∀ (k : Nat) (t s : T) (M : List T) (done : List (Row × Int)) (S : Store), t.size + s.size < k → sub La t → sub Lb s → Cl M → M.length ≤ done.length →
    ApI d La Lb na na' nb nb' oa ob ra rb i2 i3 ia ib i6 ik im S → sget S im = some (.map (eMap eRowK eI done)) → DnI oa.length d La Lb M done → MkI ik (· = im) M S →
    ∃ u M' done' S', call dp 94 [.i .i64 (code La t), .i .i64 (code Lb s), .bx i2 0, .bx i3 0, .bx ia 0, .bx ib 0, .bx i6 0, .bx ik 0] S = some (.i .i64 (code M' u), S') ∧ IsOp oa.length d t s u ∧ sub M' u ∧ Cl M' ∧ (∃ N, M' = M ++ N) ∧
      M'.length ≤ done'.length ∧ sget S' im = some (.map (eMap eRowK eI done')) ∧ DnI oa.length d La Lb M' done' ∧ MkI ik (· = im) M' S' ∧ PresB ik S S' ∧
      ∀ e, e ∈ done' → e ∈ done ∨ ∃ t' s', sub La t' ∧ sub Lb s' ∧ e.1 = (code La t', code Lb s') ∧ t'.size + s'.size ≤ t.size + s.size := by
  intro k
  induction k with
  | zero => intro t s _ _ _ h; omega
  | succ k ih =>
    intro t s M done S hk ht hs hM hMd hA him hD hI
    let P : D → Store → Prop := fun r S' => ∃ u M' done', r = .i .i64 (code M' u) ∧ IsOp oa.length d t s u ∧ sub M' u ∧ Cl M' ∧ (∃ N, M' = M ++ N) ∧
      M'.length ≤ done'.length ∧ sget S' im = some (.map (eMap eRowK eI done')) ∧ DnI oa.length d La Lb M' done' ∧ MkI ik (· = im) M' S' ∧ PresB ik S S' ∧
      ∀ e, e ∈ done' → e ∈ done ∨ ∃ t' s', sub La t' ∧ sub Lb s' ∧ e.1 = (code La t', code Lb s') ∧ t'.size + s'.size ≤ t.size + s.size
    obtain ⟨r, S', e, u, M', done', rfl, h⟩ := f94 (.i .i64 (code La t)) (.i .i64 (code Lb s)) (.bx i2 0) (.bx i3 0) (.bx ia 0) (.bx ib 0) (.bx i6 0) (.bx ik 0) S P (by
      have stay : ∀ u, IsOp oa.length d t s u → sub M u → P (.i .i64 (code M u)) S := fun u hu hs => ⟨u, M, done, rfl, hu, hs, hM, ⟨[], by simp⟩, hMd, him, hD, hI, PresB.refl _ _, fun e he => .inl he⟩
      simp [s94, hA.1]
      by_cases e1 : t = .leaf d
      · subst e1
        simp [code_dI]
        have := stay (.leaf d) IsOp_dom_l trivial
        rwa [code_dI] at this
      have f1 : ¬ code La t = dI d := fun h => e1 ((code_eq_dI La d t).1 h)
      by_cases e2 : s = .leaf d
      · subst e2
        simp [f1, code_dI]
        have := stay (.leaf d) IsOp_dom_r trivial
        rwa [code_dI] at this
      have f2 : ¬ code Lb s = dI d := fun h => e2 ((code_eq_dI Lb d s).1 h)
      have wt := wfs wa ht
      have ws := wfs wb hs
      by_cases e3 : code La t < 2 ∧ code Lb s < 2
      · obtain ⟨b, rfl⟩ := (code_lt2 La t).1 e3.1
        obtain ⟨c, rfl⟩ := (code_lt2 Lb s).1 e3.2
        have hbd : b = !d := by cases b <;> cases d <;> simp at e1 ⊢
        have hcd : c = !d := by cases c <;> cases d <;> simp at e2 ⊢
        subst hbd hcd
        have hw : IntKind.i64.wrap (1 - dI d) = dI (!d) := by cases d <;> rfl
        simp [f1, f2, e3.1, e3.2, hw]
        have := stay (.leaf (!d)) IsOp_both trivial
        rwa [code_dI] at this
      have hv : min (top oa.length t) (top oa.length s) < oa.length := by
        rcases Nat.lt_or_ge (min (top oa.length t) (top oa.length s)) oa.length with h | h
        · exact h
        · exfalso
          apply e3
          constructor
          · rw [code_lt2]
            cases t with
            | leaf b => exact ⟨b, rfl⟩
            | node v _ _ => have := wt.1; simp only [top] at h; omega
          · rw [code_lt2]
            cases s with
            | leaf b => exact ⟨b, rfl⟩
            | node v _ _ => have := ws.1; simp only [top] at h; omega
      have hkey : D.agg [.i .i64 (code La t), .i .i64 (code Lb s)] = eRowK (code La t, code Lb s) := rfl
      have hlk := lkD'_mp keyE_rowK (a := (code La t, code Lb s)) (isKey_row _) him true (.i .i64 0)
      have a0 := code_nonneg La t
      have a1 := code_lt ht
      have b0 := code_nonneg Lb s
      have b1 := code_lt hs
      have e77a := v77 na na' oa (nds La) ra (code La t) ⟨by omega, by omega⟩ (by rw [nds_len]; exact a1)
      have e77b := v77 nb nb' ob (nds Lb) rb (code Lb s) ⟨by omega, by omega⟩ (by rw [nds_len]; exact b1)
      rw [lev_code ht] at e77a
      rw [lev_code hs, hab] at e77b
      generalize hvd : min (top oa.length t) (top oa.length s) = v at *
      have hmin : (if (top oa.length s : Int) < top oa.length t then (top oa.length s : Int) else top oa.length t) = v := by split <;> omega
      have e95a := v95 na na' oa ra hLa (by omega) t ht v hv
      have e95b := v95 nb nb' ob rb hLb (by omega) s hs v (by omega)
      simp only [eB] at e77a e77b e95a e95b
      have g : ¬ (code La t < 2 ∧ code Lb s < 2) := e3
      have g' : (¬ code La t < 2) ∨ (code La t < 2 ∧ ¬ code Lb s < 2) := by
        by_cases q : code La t < 2
        · exact .inr ⟨q, fun k => g ⟨q, k⟩⟩
        · exact .inl q
      have szs := lo_size v t
      have szs' := lo_size v s
      have szh := hi_size v t
      have szh' := hi_size v s
      have slt : (loT v t).size + (loT v s).size < t.size + s.size ∧ (hiT v t).size + (hiT v s).size < t.size + s.size := by
        rcases Nat.le_total (top oa.length t) (top oa.length s) with q | q
        · have ev : top oa.length t = v := by omega
          have := lo_size_lt ev hv
          have := hi_size_lt ev hv
          omega
        · have ev : top oa.length s = v := by omega
          have := lo_size_lt ev hv
          have := hi_size_lt ev hv
          omega
      cases ha : assoc (code La t, code Lb s) done with
      | some z =>
        rw [ha] at hlk
        obtain ⟨t', s', u, q1, q2, q3, q4, q5⟩ := hD.2 _ (assoc_mem ha)
        simp only [Prod.mk.injEq] at q3
        obtain ⟨⟨q6, q7⟩, q8⟩ := q3
        have := code_inj ht q1 q6
        subst this
        have := code_inj hs q2 q7
        subst this
        have fin := stay u q5 q4
        rcases g' with g1 | ⟨g1, g2⟩
        · simp [f1, f2, g1, hA.2.1, bldV, hkey, hlk, q8]
          exact fin
        · simp [f1, f2, g1, g2, hA.2.1, bldV, hkey, hlk, q8]
          exact fin
      | none =>
        rw [ha] at hlk
        obtain ⟨A2, A3, Aa, Ab, A6⟩ := hA
        have hmin' : (if top oa.length s < top oa.length t then (top oa.length s : Int) else top oa.length t) = v := by split <;> omega
        have hA : ApI d La Lb na na' nb nb' oa ob ra rb i2 i3 ia ib i6 ik im S := ⟨A2, A3, Aa, Ab, A6⟩
        have sum : t.size + s.size ≤ k := by omega
        obtain ⟨u1, M1, d1, S1, q1, o1, w1, c1, ⟨N1, n1⟩, l1, m1, D1, I1, P1, x1⟩ := ih (loT v t) (loT v s) M done S (by omega) (lo_sub hLa v ht) (lo_sub hLb v hs) hM hMd hA him hD hI
        have hA1 := hA.pres P1 k2 k3 ka kb k6
        obtain ⟨u2, M2, d2, S2, q2, o2, w2, c2, ⟨N2, n2⟩, l2, m2, D2, I2, P2, x2⟩ := ih (hiT v t) (hiT v s) M1 d1 S1 (by omega) (hi_sub hLa v ht) (hi_sub hLb v hs) c1 l1 hA1 m1 D1 I1
        have hA2 := hA1.pres P2 k2 k3 ka kb k6
        have w1' : sub M2 u1 := by rw [n2]; exact sub_app N2 w1
        have hc1 : code M1 u1 = code M2 u1 := by rw [n2, code_app N2 w1]
        have hfresh : ∀ e, e ∈ d2 → e.1 ≠ (code La t, code Lb s) := by
          intro e he e'
          have big : ∀ t' s', sub La t' → sub Lb s' → e.1 = (code La t', code Lb s') → t'.size + s'.size = t.size + s.size := by
            intro t' s' a b c
            rw [e'] at c
            simp only [Prod.mk.injEq] at c
            rw [code_inj ht a c.1, code_inj hs b c.2]
          rcases x2 e he with h | ⟨t', s', a, b, c, z⟩
          · rcases x1 e h with h | ⟨t', s', a, b, c, z⟩
            · exact assoc_none.1 ha e h e'
            · have := big t' s' a b c; omega
          · have := big t' s' a b c; omega
        have hnone : assoc (code La t, code Lb s) d2 = none := assoc_none.2 hfresh
        have hnd2 : ((d2.map (·.1)) ++ [(code La t, code Lb s)]).Nodup := nodup_snoc.2 ⟨D2.1, fun h => by
          obtain ⟨e, he, e'⟩ := List.mem_map.1 h
          exact hfresh e he e'⟩
        have hop : IsOp oa.length d t s (mk v u1 u2) := by
          subst hvd
          exact IsOp_mk wt ws hv o1 o2
        have hlen : d2.length + 1 ≤ 1000000 := by
          -- the new key counts too
          obtain ⟨a, b, c⟩ := addT_ext c2 (v := v) w1' w2
          obtain ⟨N3, n3⟩ := a
          have hw3 := sub_addT (v := v) (h := u2) w1'
          have : DnI oa.length d La Lb (addT M2 (mk v u1 u2)) (d2 ++ [((code La t, code Lb s), code (addT M2 (mk v u1 u2)) (mk v u1 u2))]) := by
            refine ⟨by simpa using hnd2, fun e he => ?_⟩
            rcases List.mem_append.1 he with he | he
            · rw [n3]; exact (D2.app N3).2 e he
            · rw [List.mem_singleton.1 he]; exact ⟨t, s, _, ht, hs, rfl, hw3, hop⟩
          have := this.len
          simp at this
          omega
        have hmk : im ≠ ik := by
          rintro rfl
          obtain ⟨_, _, _, b, _⟩ := I2
          rw [m2] at b; cases b
        obtain ⟨S3, q3, I3, P3, m3, _⟩ := v80 ik (· = im) c2 (by omega) v u1 u2 w1' w2 S2 I2 (Ne.symm hmk) (fun j hj => by have := sget_lt m2; have hj' : j = im := hj; omega)
        have m3 := m3 im _ rfl m2
        obtain ⟨⟨N3, n3⟩, c3, l3⟩ := addT_ext c2 (v := v) w1' w2
        have hw3 := sub_addT (v := v) (h := u2) w1'
        generalize addT M2 (mk v u1 u2) = M3 at *
        have hA3 := hA2.pres P3 k2 k3 ka kb k6
        have hmu := muD'_new keyE_rowK (ev := eI) (a := (code La t, code Lb s)) (b := code M3 (mk v u1 u2)) (isKey_row _) m3 hnone
        have hs4 := sget_sset (Ent.map (eMap eRowK eI (d2 ++ [((code La t, code Lb s), code M3 (mk v u1 u2))]))) (sget_lt m3)
        have hlk4 := lkD'_mp keyE_rowK (a := (code La t, code Lb s)) (isKey_row _) hs4 false (.i .i64 0)
        rw [assoc_app, hnone] at hlk4
        simp [assoc] at hlk4
        have i3m : i3 ≠ im := by rintro rfl; rw [hA3.2.1] at m3; cases m3
        have hA4 : sget (sset S3 im (Ent.map (eMap eRowK eI (d2 ++ [((code La t, code Lb s), code M3 (mk v u1 u2))])))) i3 = _ := (sget_sset_ne _ i3m).trans hA3.2.1
        have fin : P (.i .i64 (code M3 (mk v u1 u2))) (sset S3 im (Ent.map (eMap eRowK eI (d2 ++ [((code La t, code Lb s), code M3 (mk v u1 u2))])))) := by
          refine ⟨_, M3, _, rfl, hop, hw3, c3, ⟨N1 ++ (N2 ++ N3), by rw [n3, n2, n1]; simp⟩, by simp; omega, hs4, ?_, ?_, ?_, ?_⟩
          · refine ⟨by simpa using hnd2, fun e he => ?_⟩
            rcases List.mem_append.1 he with he | he
            · rw [n3]; exact (D2.app N3).2 e he
            · rw [List.mem_singleton.1 he]; exact ⟨t, s, _, ht, hs, rfl, hw3, hop⟩
          · obtain ⟨n', o', u', j1, j2, jp, j3⟩ := I3
            have ne : ∀ j e, sget S3 j = some e → (∀ es, e ≠ .map es) → j ≠ im := by rintro j e h1 h2 rfl; rw [m3] at h1; injection h1 with h1; exact h2 _ h1.symm
            refine ⟨n', o', u', (sget_sset_ne _ (ne _ _ j1 (by intro es h; cases h))).trans j1, ?_, jp, ?_⟩
            · rcases j2 with j2 | ⟨a, b, c, e⟩
              · exact .inl j2
              · exact .inr ⟨a, b, c, (sget_sset_ne _ (ne _ _ e (by intro es h; cases h))).trans e⟩
            · rcases j3 with j3 | ⟨iu, a, b, c⟩
              · exact .inl j3
              · exact .inr ⟨iu, a, b, (sget_sset_ne _ b).trans c⟩
          · intro id cs hid e
            have e3 := P3 _ _ hid (P2 _ _ hid (P1 _ _ hid e))
            exact (sget_sset_ne _ (by rintro rfl; rw [m3] at e3; cases e3)).trans e3
          · intro e he
            rcases List.mem_append.1 he with he | he
            · rcases x2 e he with h | ⟨t', s', a, b, c, z⟩
              · rcases x1 e h with h | ⟨t', s', a, b, c, z⟩
                · exact .inl h
                · exact .inr ⟨t', s', a, b, c, by omega⟩
              · exact .inr ⟨t', s', a, b, c, by omega⟩
            · rw [List.mem_singleton.1 he]; exact .inr ⟨t, s, ht, hs, rfl, Nat.le_refl _⟩
        rw [hc1] at q1
        simp only [eRowK, eRow, eI] at hlk hmu hlk4
        rcases g' with g1 | ⟨g1, g2⟩
        · simp [f1, f2, g1, A2, A3, Aa, Ab, A6, bldV, hlk, e77a, e77b, hmin', e95a, e95b, q1, q2, q3, hA1.2.2.2.2, hA2.2.1, hA3.2.1, hmu, hA4, hlk4]
          exact fin
        · simp [f1, f2, g1, g2, A2, A3, Aa, Ab, A6, bldV, hlk, e77a, e77b, hmin', e95a, e95b, q1, q2, q3, hA1.2.2.2.2, hA2.2.1, hA3.2.1, hmu, hA4, hlk4]
          exact fin)
    exact ⟨u, M', done', S', e, h⟩

end Go.Proofs.YtjlmeikcfdanmaaGreatDoor.DE.V

namespace Go.Proofs.YtjlmeikcfdanmaaGreatDoor.DE
open Go

/-! lineage/bdd.Not -/
def s23_r0 (cf : CallF) (a2 a3 a4 a20 a21 a22 a23 : D) (S : Store) (Q : QT) : Prop :=
  OX (ldD S 3 true a4) fun x1 =>
  OX (stD S 3 true a2 x1) fun S3 =>
  Q .ret (mkf 44 [(2, a2), (3, .top), (4, .top), (20, .top), (21, .top), (22, .top), (23, .top)]) S3
theorem e23_r0 (cf : CallF) (a2 a3 a4 a20 a21 a22 a23 : D) (S : Store) (Q : QT) : wp cf c23_r0 (mkf 44 [(2, a2), (3, a3), (4, a4), (20, a20), (21, a21), (22, a22), (23, a23)]) S Q = s23_r0 cf a2 a3 a4 a20 a21 a22 a23 S Q := wpS_of (by kernel_rfl)
def s23_0 (cf : CallF) (a2 a3 a4 a20 a21 a22 a23 : D) (S : Store) (Q : QT) : Prop :=
  OX (binD .lss .num a22 a21) fun x4 =>
  WB x4
  (OX (iaD 3 a20 a22) fun x5 =>
  OX (ldD S 3 true x5) fun x6 =>
  al [.i .i64 0, .i .i64 0, .i .i64 0] S fun x7 S8 =>
  OX (stD S8 3 true x7 x6) fun S10 =>
  OX (faD 1 a4) fun x11 =>
  OX (ldD S10 1 false x11) fun x12 =>
  OX (faD 0 x7) fun x13 =>
  OX (ldD S10 1 false x13) fun x14 =>
  OX (faD 1 x7) fun x15 =>
  OX (ldD S10 1 false x15) fun x16 =>
  OX (fnD a3) fun q18 => OX (isoCall cf q18.1 ([x16] ++ q18.2)) fun x17 =>
  OX (faD 2 x7) fun x19 =>
  OX (ldD S10 1 false x19) fun x20 =>
  OX (fnD a3) fun q22 => OX (isoCall cf q22.1 ([x20] ++ q22.2)) fun x21 =>
  OX (bldV [.i .i64 0, .i .i64 0, .i .i64 0] [(0, 1, false, x14), (1, 1, false, x17), (2, 1, false, x21)]) fun x23 =>
  OX (cellsV 3 true [(.agg x23)]) fun x24 =>
  OX (appD 3 false x12 (.sl 3 false x24 .ro) S10) fun p26 =>
  OX (faD 1 a4) fun x27 =>
  OX (stD p26.2 1 false x27 p26.1) fun S29 =>
  OX (binD .add .num a22 (.i .i64 1)) fun x30 =>
  Q .normal (mkf 44 [(2, a2), (3, a3), (4, a4), (20, a20), (21, a21), (22, x30), (23, .top)]) S29)
  (Q (.exit 0) (mkf 44 [(2, a2), (3, a3), (4, a4), (20, a20), (21, a21), (22, a22), (23, x4)]) S)
theorem e23_0 (cf : CallF) (a2 a3 a4 a20 a21 a22 a23 : D) (S : Store) (Q : QT) : wp cf c23_0 (fkill (mkf 44 [(2, a2), (3, a3), (4, a4), (20, a20), (21, a21), (22, a22), (23, a23)]) []) S Q = s23_0 cf a2 a3 a4 a20 a21 a22 a23 S Q := wpS_of (by kernel_rfl)
def s23 (cf : CallF) (a0 : D) (S : Store) (Post : PT) : Prop :=
  bxx 3 true a0 S fun x31 S32 =>
  al [.sl 2 true [] .ro, .sl 3 true [] .ro, .i .i64 0] S32 fun x33 S34 =>
  OX (ldD S34 3 true x31) fun x35 =>
  OX (isoCall cf 33 [x35]) fun x36 =>
  OX (unD .not x36) fun x37 =>
  WB x37
  (OX (bldV [.sl 2 true [] .ro, .sl 3 true [] .ro, .i .i64 0] []) fun x38 =>
  OX (stD S34 3 true x33 (.agg x38)) fun S40 =>
  OX (ldc S40 3 true x33) fun x41 => Post x41 S40)
  (OX (faD 0 x31) fun x42 =>
  OX (ldD S34 1 false x42) fun x43 =>
  OX (isoCall cf 49 [x43]) fun x44 =>
  OX (faD 2 x31) fun x45 =>
  OX (ldD S34 1 false x45) fun x46 =>
  OX (fnD (.fn 55 [])) fun q48 => OX (isoCall cf q48.1 ([x46] ++ q48.2)) fun x47 =>
  OX (bldV [.sl 2 true [] .ro, .sl 3 true [] .ro, .i .i64 0] [(0, 1, false, x44), (2, 1, false, x47)]) fun x49 =>
  al [.sl 2 true [] .ro, .sl 3 true [] .ro, .i .i64 0] S34 fun x50 S51 =>
  OX (ldD S51 1 false x42) fun x52 => deq x52 x43 = true ∧
  (OX (ldD S51 1 false x45) fun x53 => deq x53 x46 = true ∧
  (OX (stD S51 3 true x50 (.agg x49)) fun S55 =>
  OX (faD 1 x31) fun x56 =>
  OX (ldD S55 1 false x56) fun x57 =>
  OX (lenD false x57) fun x58 =>
  W cf (.loop [] c23_0) (mkf 44 [(2, x33), (3, (.fn 55 [])), (4, x50), (20, x57), (21, x58), (22, (.i .i64 0)), (23, .top)]) S55 (Qblk 0 (QS cf c23_r0 (FinK [.cell 2 3 true] Post))))))
theorem e23 (cf : CallF) (a0 : D) (S : Store) (Post : PT) : wp cf c23 (frame0 d23 [a0]) S (FinK d23.res Post) = s23 cf a0 S Post := wpS_of (by kernel_rfl)
theorem i23 (a0 : D) (r : D) (ha : noRefL (stripL [a0]) = true) (hr : noRef r = true) (h : s23 (call dp) (strip a0) [] fun d _ => stripT d = r) : isoCall (call dp) 23 [a0] = some r := iso_s (f := d23) rfl ⟨rfl, by decide⟩ ha hr (by rw [← e23] at h; exact h)
/-! lineage/bdd.Not$1 -/
def s55 (cf : CallF) (a0 : D) (S : Store) (Post : PT) : Prop :=
  OX (binD .lss .num a0 (.i .i64 2)) fun x1 =>
  WB x1
  (OX (binD .sub .num (.i .i64 1) a0) fun x2 =>
  Post x2 S)
  (Post a0 S)
theorem e55 (cf : CallF) (a0 : D) (S : Store) (Post : PT) : wp cf c55 (frame0 d55 [a0]) S (FinK d55.res Post) = s55 cf a0 S Post := wpS_of (by kernel_rfl)
theorem i55 (a0 : D) (r : D) (ha : noRefL (stripL [a0]) = true) (hr : noRef r = true) (h : s55 (call dp) (strip a0) [] fun d _ => stripT d = r) : isoCall (call dp) 55 [a0] = some r := iso_s (f := d55) rfl ⟨rfl, by decide⟩ ha hr (by rw [← e55] at h; exact h)
/-! lineage/bdd.Restrict -/
/-! lineage/lineagelaw11.BddBoolean -/
end Go.Proofs.YtjlmeikcfdanmaaGreatDoor.DE

namespace Go.Proofs.YtjlmeikcfdanmaaGreatDoor.DE.V
open Go BT

/-- The index of a row, or -1. -/
def ixOf (r : Row) : List Row → Int
  | [] => -1
  | x :: l => if x = r then 0 else if ixOf r l < 0 then -1 else ixOf r l + 1

theorem ixOf_none {r : Row} : ∀ {l : List Row}, r ∉ l → ixOf r l = -1
  | [], _ => rfl
  | x :: l, h => by
    simp only [List.mem_cons, not_or] at h
    simp [ixOf, Ne.symm h.1, ixOf_none h.2]

theorem ixOf_found {r : Row} : ∀ {l : List Row} {k : Nat}, l[k]? = some r → r ∉ l.take k → ixOf r l = k
  | [], _, h, _ => by simp at h
  | x :: l, 0, h, _ => by simp at h; simp [ixOf, h]
  | x :: l, k + 1, h, hn => by
    simp only [List.take_succ_cons, List.mem_cons, not_or] at hn
    have := ixOf_found (l := l) (k := k) (by simpa using h) hn.2
    simp [ixOf, Ne.symm hn.1, this]
    omega

theorem ixOf_lt (r : Row) : ∀ l : List Row, ixOf r l < l.length ∧ -1 ≤ ixOf r l
  | [] => by simp [ixOf]
  | x :: l => by
    have := ixOf_lt r l
    simp only [ixOf, List.length_cons]
    split
    · omega
    · split <;> omega

theorem v50 (nl : Bool) (l : List Row) (r : Row) (hb : Bd l.length) : isoCall (call dp) 50 [eRows nl l, .agg (eRow r)] = some (.i .i64 (ixOf r l)) := by
  apply i50 _ _ _ (by simp [noRefL]) rfl
  simp [s50]
  let J : Nat → List D → Store → Prop := fun q fr S => ∃ k a4 a9, k + q = l.length ∧ r ∉ l.take k ∧ S = [Ent.box (eRow r)] ∧ fr = mkf 19 [(0, eRows nl l), (3, .bx 0 0), (4, a4), (7, .i .i64 l.length), (8, .i .i64 k), (9, a9)]
  refine W_loop J ?_ l.length _ _ ⟨0, _, _, by simp, by simp, rfl, rfl⟩
  rintro q fr S ⟨k, a4, a9, hk, hn, rfl, rfl⟩
  rw [← wp_W, e50_0]
  simp [s50_0]
  by_cases h : k < l.length
  · obtain ⟨x, hx⟩ : ∃ x, l[k]? = some x := ⟨_, List.getElem?_eq_getElem (by omega)⟩
    simp [h, iaD_rows _ hx]
    by_cases e : r = x
    · subst e
      simp [ixOf_found hx hn]
    · simp [e, wrapS (hb.lt (Nat.le_of_lt h))]
      refine ⟨q - 1, by omega, k + 1, _, _, by omega, ?_, rfl, rfl⟩
      rw [take_snoc hx]
      simp [hn, e]
  · have : l.take k = l := List.take_of_length_le (by omega)
    rw [this] at hn
    simp [h, e50_r0, s50_r0, ixOf_none hn]

/-- The empty diagram. -/
def zB : D := eB true true [] [] 0
open Classical in
theorem v13 (nl : Bool) (ord : List Row) (c : Bool) (hn : nl = true → ord = []) (hb : Bd ord.length) : isoCall (call dp) 13 [eRows nl ord, .b c] = some (if OrdOk ord ∧ ord.length ≤ 4096 then eB nl true ord [] (if c then 1 else 0) else zB) := by
  apply i13 _ _ _ (by simp [noRefL]) (by split <;> simp [zB])
  simp only [s13]
  by_cases h : OrdOk ord ∧ ord.length ≤ 4096
  · have e48 := v48 nl ord hb
    simp only [h, and_self, decide_true] at e48
    simp [e48, v49 nl ord hn (by simp [maxLenD]; omega), bldV, jn_eq, h]
    cases c <;> simp <;> rfl
  · have e48 := v48 nl ord hb
    simp only [h, decide_false] at e48
    simp [e48, h]
    rfl

open Classical in
theorem v14 (nl : Bool) (ord : List Row) (r : Row) (hn : nl = true → ord = []) (hb : Bd ord.length) : isoCall (call dp) 14 [eRows nl ord, .agg (eRow r)] = some (if OrdOk ord ∧ ord.length ≤ 4096 then
    (if ixOf r ord < 0 then .tup [zB, .i .i64 4] else .tup [eB nl false ord [(ixOf r ord, 0, 1)] 2, .i .i64 0]) else .tup [zB, .i .i64 1]) := by
  apply i14 _ _ _ (by simp [noRefL]) (by split <;> (try split) <;> simp [zB, noRef, noRefL])
  have e48 := v48 nl ord hb
  have e50 := v50 nl ord r hb
  by_cases h : OrdOk ord ∧ ord.length ≤ 4096
  · simp only [h, and_self, decide_true] at e48
    by_cases h2 : ixOf r ord < 0
    · simp [s14, e48, e50, h, h2]
      rfl
    · simp [s14, e48, e50, h, h2, v49 nl ord hn (by simp [maxLenD]; omega), bldV]
      rfl
  · simp only [h, decide_false] at e48
    simp [s14, e48, h]
    rfl

theorem v55 (r : Int) (h : 0 ≤ r) : isoCall (call dp) 55 [.i .i64 r] = some (.i .i64 (swp r)) := by
  apply i55 _ _ rfl rfl
  simp [s55, swp]
  split
  · rw [wrap64 ⟨by omega, by omega⟩]
  · intro h2; omega

end Go.Proofs.YtjlmeikcfdanmaaGreatDoor.DE.V

namespace Go.Proofs.YtjlmeikcfdanmaaGreatDoor.DE.V
open Go BT

/-- A valid diagram and its tree. -/
def VT (ord : List Row) (ns : List Nd) (root : Int) (t : T) : Prop :=
  (OrdOk ord ∧ ord.length ≤ 4096) ∧ Wf ord.length t ∧ ns = nds (post t []) ∧ root = code (post t []) t ∧ (post t []).length ≤ 4096

theorem post_nil (t : T) : Cl (post t []) ∧ sub (post t []) t ∧ ∀ n, Wf n t → ∀ s, s ∈ post t [] → Wf n s := by
  obtain ⟨N, e, c, s, p, _⟩ := post_spec t [] Cl_nil
  rw [List.nil_append] at e c s
  rw [e]
  exact ⟨c, s, fun n hw s hs => p _ (Wf_her n) hw s hs⟩

theorem VB_VT {ord : List Row} {ns : List Nd} {root : Int} : VB ord ns root ↔ ∃ t, VT ord ns root t := by
  constructor
  · rintro ⟨ho, hl, ⟨hs, _, _⟩, t, e1, e2⟩
    obtain ⟨L, hL, e, hw⟩ := Sh_trees hs
    obtain ⟨c, s, _⟩ := post_nil t
    have : L = post t [] := nds_inj hL c (by rw [← e, e1])
    subst this
    refine ⟨t, ho, wfs hw s, e1, e2, ?_⟩
    rw [e1, nds_len] at hl; exact hl
  · rintro ⟨t, ho, hw, rfl, rfl, hl⟩
    obtain ⟨c, s, w⟩ := post_nil t
    refine ⟨ho, by rw [nds_len]; exact hl, ⟨trees_Sh c (w _ hw), code_nonneg _ _, by rw [nds_len]; exact code_lt s⟩, t, rfl, rfl⟩

theorem strip_idem : ∀ d : D, strip (strip d) = strip d := by
  intro d
  cases d with
  | agg cs =>
    simp only [strip]
    congr 1
    induction cs with
    | nil => rfl
    | cons c cs ih =>
      simp only [strip1L, ih]
      congr 1
      cases c <;> rfl
  | _ => rfl

theorem stripL_idem : ∀ l : List D, stripL (stripL l) = stripL l
  | [] => rfl
  | x :: l => by simp [stripL, strip_idem, stripL_idem l]

theorem isoCall_strip (cf : CallF) (g : Nat) (args : List D) : isoCall cf g args = isoCall cf g (stripL args) := by
  simp only [isoCall, stripL_idem]

theorem small {n : Nat} (h : n ≤ 7) {t : T} (w : Wf n t) : (post t []).length ≤ 127 := by
  have a := post_len w
  have b : 2 ^ n ≤ 2 ^ 7 := Nat.pow_le_pow_right (by omega) h
  simp at b
  omega

open Classical in
theorem v54 (d : Bool) (na na' nb nb' : Bool) (oa : List Row) (xa xb : List Nd) (ra rb : Int) (t s : T) (ha : VT oa xa ra t) (hb : VT oa xb rb s) (h7 : oa.length ≤ 7) (hn : na = true → oa = []) (hn' : nb = true → oa = []) :
    ∃ n : Bool, (n = true → post (opT oa.length d t s) [] = []) ∧ isoCall (call dp) 54 [eB na na' oa xa ra, eB nb nb' oa xb rb, .i .i64 (dI d)] =
      some (.tup [eB na n oa (nds (post (opT oa.length d t s) [])) (code (post (opT oa.length d t s) []) (opT oa.length d t s)), .i .i64 0]) := by
  have hva : VB oa xa ra := VB_VT.2 ⟨t, ha⟩
  have hvb : VB oa xb rb := VB_VT.2 ⟨s, hb⟩
  have za := small h7 ha.2.1
  have zb := small h7 hb.2.1
  obtain ⟨_, wt, rfl, rfl, _⟩ := ha
  obtain ⟨_, ws, rfl, rfl, _⟩ := hb
  obtain ⟨ca, sa, pa⟩ := post_nil t
  obtain ⟨cb, sb, pb⟩ := post_nil s
  have e33a := v33 na na' oa (nds (post t [])) (code (post t []) t) hn (by rw [nds_len]; unfold Bd; omega) (by unfold Bd; omega)
  have e33b := v33 nb nb' oa (nds (post s [])) (code (post s []) s) hn' (by rw [nds_len]; unfold Bd; omega) (by unfold Bd; omega)
  have e74 := v74 na nb oa oa (by unfold Bd; omega)
  simp only [hva, hvb, decide_true, eB] at e33a e33b e74
  let S0 : Store := [Ent.box [.fn 94 [.bx 2 0, .bx 6 0, .bx 0 0, .bx 1 0, .bx 7 0, .bx 4 0]], .box [.mp 5], .map [], .box [.sl 3 true [] .ro, .nilm], .box [.sl 2 true [] .ro, .sl 3 true [] .ro, .i .i64 0], .box [.i .i64 (dI d)],
    .box [eRows nb oa, eNds nb' (nds (post s [])), .i .i64 (code (post s []) s)], .box [eRows na oa, eNds na' (nds (post t [])), .i .i64 (code (post t []) t)]]
  obtain ⟨u, M', done', S', q, o, w, c, _, l, _, hD, I, Pb, _⟩ := v94 d ca cb na na' nb nb' oa oa (code (post t []) t) (code (post s []) s) 2 6 0 1 7 4 5 (pa _ wt) (pb _ ws) rfl
    (Nat.le_trans (Nat.mul_le_mul (show (post t []).length + 2 ≤ 200 by omega) (show (post s []).length + 2 ≤ 200 by omega)) (by decide)) (by omega) (by omega) (by decide) (by decide) (by decide) (by decide) (by decide)
    (t.size + s.size + 1) t s [] [] S0 (by omega) sa sb Cl_nil (by simp) ⟨rfl, rfl, rfl, rfl, rfl⟩ rfl ⟨by simp, fun _ h => by cases h⟩ ⟨true, .ro, .nilm, rfl, .inl ⟨rfl, rfl, rfl⟩, (fun _ h => by cases h), .inl ⟨rfl, rfl⟩⟩
  have hu := IsOp_opT wt ws o
  subst hu
  have hpr : ((post t []).length + 2) * ((post s []).length + 2) ≤ 1000000 := Nat.le_trans (Nat.mul_le_mul (show (post t []).length + 2 ≤ 200 by omega) (show (post s []).length + 2 ≤ 200 by omega)) (by decide)
  have hM : M'.length ≤ 1000000 := Nat.le_trans l (Nat.le_trans hD.len hpr)
  obtain ⟨n1, o1, u1, j1, j2, _⟩ := I
  obtain ⟨n, hn2, e72⟩ := v72 na n1 oa c hM (opT oa.length d t s) w hn (by simp [maxLenD]; omega)
  have zu := small h7 (opT_wf oa.length d t s)
  refine ⟨n, hn2, ?_⟩
  have p0 := Pb 0 _ (by decide) (show sget S0 0 = some (.box [eRows na oa, eNds na' (nds (post t [])), .i .i64 (code (post t []) t)]) from rfl)
  have p3 := Pb 3 _ (by decide) (show sget S0 3 = some (.box [.sl 2 true [] .ro, .sl 3 true [] .ro, .i .i64 0]) from rfl)
  have l3 := sget_lt p3
  rw [isoCall_strip] at e72
  have e72' := isoCall_strip (call dp) 72 [eRows na oa, .sl 3 n1 ((nds M').map eNd) o1, .i .i64 (code M' (opT oa.length d t s))]
  rw [show stripL [eRows na oa, .sl 3 n1 ((nds M').map eNd) o1, .i .i64 (code M' (opT oa.length d t s))] = stripL [eRows na oa, eNds n1 (nds M'), .i .i64 (code M' (opT oa.length d t s))] from rfl, e72] at e72'
  apply i54 _ _ _ _ (by simp [noRefL]) (by simp [noRef, noRefL])
  simp [s54, e33a, e33b, e74]
  simp only [S0] at q
  rw [q]
  simp [p0, j1, e72', show ¬ 3 = S'.length by omega, p3, -sset_cons]
  rw [if_neg (by rw [nds_len]; omega), sget_sset _ (by simp; omega)]
  simp
  rfl

theorem v21 {na na' nb nb' nc nc' : Bool} {oa ob oc : List Row} {xa xb xc : List Nd} {ra rb rc e : Int} (h : isoCall (call dp) 54 [eB na na' oa xa ra, eB nb nb' ob xb rb, .i .i64 0] = some (.tup [eB nc nc' oc xc rc, .i .i64 e])) :
    isoCall (call dp) 21 [eB na na' oa xa ra, eB nb nb' ob xb rb] = some (.tup [eB nc nc' oc xc rc, .i .i64 e]) := by
  apply i21 _ _ _ (by simp [noRefL]) (by simp [noRef, noRefL])
  simp only [eB] at h
  simp [s21, h]
  rfl

theorem v22 {na na' nb nb' nc nc' : Bool} {oa ob oc : List Row} {xa xb xc : List Nd} {ra rb rc e : Int} (h : isoCall (call dp) 54 [eB na na' oa xa ra, eB nb nb' ob xb rb, .i .i64 1] = some (.tup [eB nc nc' oc xc rc, .i .i64 e])) :
    isoCall (call dp) 22 [eB na na' oa xa ra, eB nb nb' ob xb rb] = some (.tup [eB nc nc' oc xc rc, .i .i64 e]) := by
  apply i22 _ _ _ (by simp [noRefL]) (by simp [noRef, noRefL])
  simp only [eB] at h
  simp [s22, h]
  rfl

/-- The diagram of a tree. -/
noncomputable def eT (na n : Bool) (o : List Row) (t : T) : D := eB na n o (nds (post t [])) (code (post t []) t)

/-- What may be nil. -/
def nlOk (na : Bool) (o : List Row) : Prop := na = true → o = []

theorem VT_eT {o : List Row} {t : T} (ho : OrdOk o) (h7 : o.length ≤ 7) (w : Wf o.length t) : VT o (nds (post t [])) (code (post t []) t) t :=
  ⟨⟨ho, by omega⟩, w, rfl, rfl, by have := small h7 w; omega⟩

theorem andT (na na' nb nb' : Bool) (o : List Row) (t s : T) (ho : OrdOk o) (h7 : o.length ≤ 7) (wt : Wf o.length t) (ws : Wf o.length s) (hn : nlOk na o) (hn' : nlOk nb o) :
    ∃ n : Bool, (n = true → post (opT o.length false t s) [] = []) ∧ isoCall (call dp) 21 [eT na na' o t, eT nb nb' o s] = some (.tup [eT na n o (opT o.length false t s), .i .i64 0]) := by
  obtain ⟨n, h1, h2⟩ := v54 false na na' nb nb' o _ _ _ _ t s (VT_eT ho h7 wt) (VT_eT ho h7 ws) h7 hn hn'
  exact ⟨n, h1, v21 h2⟩

theorem orT (na na' nb nb' : Bool) (o : List Row) (t s : T) (ho : OrdOk o) (h7 : o.length ≤ 7) (wt : Wf o.length t) (ws : Wf o.length s) (hn : nlOk na o) (hn' : nlOk nb o) :
    ∃ n : Bool, (n = true → post (opT o.length true t s) [] = []) ∧ isoCall (call dp) 22 [eT na na' o t, eT nb nb' o s] = some (.tup [eT na n o (opT o.length true t s), .i .i64 0]) := by
  obtain ⟨n, h1, h2⟩ := v54 true na na' nb nb' o _ _ _ _ t s (VT_eT ho h7 wt) (VT_eT ho h7 ws) h7 hn hn'
  exact ⟨n, h1, v22 h2⟩

/-! Negation. -/
def swN (x : Nd) : Nd := (x.1, swp x.2.1, swp x.2.2)

open Classical in
theorem v23 (nl nl' : Bool) (ord : List Row) (ns : List Nd) (root : Int) (hn : nl = true → ord = []) (hb : Bd (ns.length + 2)) (hb' : Bd ord.length) (hv : VB ord ns root) :
    isoCall (call dp) 23 [eB nl nl' ord ns root] = some (eB nl (decide (ns.length = 0)) ord (ns.map swN) (swp root)) := by
  have e33 := v33 nl nl' ord ns root hn hb hb'
  simp only [hv, decide_true, eB] at e33
  have ez := v55 root hv.2.2.1.2.1
  apply i23 _ _ (by simp [noRefL]) (by simp)
  simp [s23, e33, v49 nl ord hn (by have := hv.1.2; simp [maxLenD]; omega), ez, bldV]
  have hpos : ∀ x, x ∈ ns → 0 ≤ x.2.1 ∧ 0 ≤ x.2.2 := by
    intro x hx
    obtain ⟨k, hk⟩ := List.mem_iff_getElem?.1 hx
    have := (okNd_of hk hv.2.2.1.1).2.1
    exact ⟨this.1.1, this.2.1⟩
  have h40 := hv.2.1
  let J : Nat → List D → Store → Prop := fun q fr S => ∃ k a23 o, k + q = ns.length ∧ sget S 1 = some (.box [.sl 2 true [] .ro, .sl 3 true [] .ro, .i .i64 0]) ∧
    sget S 2 = some (.box [eRows nl ord, .sl 3 (decide (k = 0)) (((ns.take k).map swN).map eNd) o, .i .i64 (swp root)]) ∧ Liv S (decide (k = 0)) k o ∧
    fr = mkf 44 [(2, .bx 1 0), (3, .fn 55 []), (4, .bx 2 0), (20, eNds nl' ns), (21, .i .i64 ns.length), (22, .i .i64 k), (23, a23)]
  refine W_loop J ?_ ns.length _ _ ⟨0, _, .ro, by simp, rfl, rfl, .inl ⟨rfl, rfl, rfl⟩, rfl⟩
  rintro q fr S ⟨k, a23, o, hk, h1, h2, hl, rfl⟩
  rw [← wp_W, e23_0]
  simp [s23_0]
  by_cases hkl : k < ns.length
  · obtain ⟨x, hx⟩ : ∃ x, ns[k]? = some x := ⟨_, List.getElem?_eq_getElem (by omega)⟩
    have hp := hpos x (List.mem_of_getElem? hx)
    have l2 := sget_lt h2
    simp [hkl, iaD_nds _ hx, h2, show ¬ 2 = S.length by omega, v55 _ hp.1, v55 _ hp.2, bldV]
    rw [show [D.i .i64 x.1, .i .i64 (swp x.2.1), .i .i64 (swp x.2.2)] = eNd (swN x) from rfl]
    have hlen : (((ns.take k).map swN).map eNd).length = k := by simp; omega
    have h1' : sget (Ent.box (eNd x) :: S) 1 = _ := sget_push h1
    have h2' : sget (Ent.box (eNd x) :: S) 2 = _ := sget_push h2
    obtain ⟨t, S', q4, l4, p4, m4, z4⟩ := app_liv (k := 3) (n' := false) (xs := ((ns.take k).map swN).map eNd) (ys := [eNd (swN x)]) (o' := .ro) (S := Ent.box (eNd x) :: S) (by rw [hlen]; exact hl.push _) (by rw [hlen]; simp [maxLenD]; omega) (by simp)
    have g1 := p4 _ _ h1'
    have g2 := p4 _ _ h2'
    simp at q4
    simp [q4, g2, wrapS (show Bd k by unfold Bd; omega)]
    refine ⟨q - 1, by omega, k + 1, _, .tok t, by omega, (sget_sset_ne _ (by omega)).trans g1, ?_, .inr ⟨by simp, t, rfl, (sget_sset_ne _ (by rintro rfl; rw [g2] at l4; cases l4)).trans l4⟩, rfl⟩
    rw [sget_sset _ (sget_lt g2), take_snoc hx]
    simp
  · have hk' : k = ns.length := by omega
    subst hk'
    simp at h2
    simp [e23_r0, s23_r0, h1, h2]
    rw [sget_sset _ (sget_lt h1)]
    simp
    rw [← List.map_map]
    rfl

theorem notT_spec (nl nl' : Bool) (o : List Row) (t : T) (ho : OrdOk o) (h7 : o.length ≤ 7) (w : Wf o.length t) (hn : nlOk nl o) :
    ∃ n : Bool, (n = true → post (notT t) [] = []) ∧ isoCall (call dp) 23 [eT nl nl' o t] = some (eT nl n o (notT t)) := by
  have hs := small h7 w
  have e := v23 nl nl' o (nds (post t [])) (code (post t []) t) hn (by rw [nds_len]; unfold Bd; omega) (by unfold Bd; omega) (VB_VT.2 ⟨t, VT_eT ho h7 w⟩)
  have hp := post_not t []
  simp only [List.map_nil] at hp
  refine ⟨decide ((nds (post t [])).length = 0), ?_, e.trans ?_⟩
  · simp only [decide_eq_true_eq, nds_len, hp]
    intro h
    rw [List.length_eq_zero_iff.1 h]; rfl
  · have h1 : (nds (post t [])).map swN = nds (post (notT t) []) := by rw [hp]; exact (nds_not (Cl_kids (post_nil t).1)).symm
    have h2 : swp (code (post t []) t) = code (post (notT t) []) (notT t) := by rw [hp]; exact (code_not _ t).symm
    rw [h1, h2]; rfl

end Go.Proofs.YtjlmeikcfdanmaaGreatDoor.DE.V

namespace Go.Proofs.YtjlmeikcfdanmaaGreatDoor.DE
open Go

/-! lineage/lineageref11.Index -/
/-! lineage/lineageref11.FromTable -/
/-! lineage/lineageref11.build -/
/-! lineage/lineageref11.constant -/
/-! lineage/lineageref11.Table -/
/-! lineage/lineageref11.value -/
/-! lineage/lineageref11.Not -/
/-! lineage/lineageref11.And -/
/-! lineage/lineageref11.Or -/
/-! lineage/lineageref11.Constant -/
/-! lineage/lineageref11.Single -/
/-! lineage/lineagelaw11.BddOperations -/
end Go.Proofs.YtjlmeikcfdanmaaGreatDoor.DE

namespace Go.Proofs.YtjlmeikcfdanmaaGreatDoor.BT

def bitsA (b : Nat) : Nat → Bool := fun i => b.testBit i
/-- Each assignment is that of a number. -/
theorem enc (s : Nat → Bool) : ∀ n, ∃ x, x < 2 ^ n ∧ ∀ i, i < n → x.testBit i = s i
  | 0 => ⟨0, by simp, fun i h => by omega⟩
  | n + 1 => by
    obtain ⟨x, hx, h⟩ := enc s n
    by_cases c : s n = true
    · refine ⟨2 ^ n + x, by rw [Nat.pow_succ]; omega, fun i hi => ?_⟩
      by_cases e : i = n
      · subst e; rw [Nat.testBit_two_pow_add_eq, Nat.testBit_lt_two_pow hx, c]; rfl
      · rw [Nat.testBit_two_pow_add_gt (by omega)]; exact h i (by omega)
    · have c : s n = false := by simpa using c
      refine ⟨x, by rw [Nat.pow_succ]; omega, fun i hi => ?_⟩
      by_cases e : i = n
      · subst e; rw [Nat.testBit_lt_two_pow hx, c]
      · exact h i (by omega)

/-! Lists of parts. -/
end Go.Proofs.YtjlmeikcfdanmaaGreatDoor.BT

namespace Go.Proofs.YtjlmeikcfdanmaaGreatDoor.DE.V
open Go BT

/-! Shifts and remainders of small numbers. -/
theorem pow60 {n : Nat} (h : n ≤ 60) : 2 ^ n ≤ 1152921504606846976 := by
  have := Nat.pow_le_pow_right (show 0 < 2 by omega) h
  simpa using this

theorem shl1 {n : Nat} (h : n ≤ 60) : binD .shl .num (.i .i64 1) (.i .i64 n) = some (.i .i64 ((2 ^ n : Nat) : Int)) := by
  have h2 := pow60 h
  have hm : min n 64 = n := by omega
  simp only [binD, shOp]
  rw [if_neg (by omega)]
  simp only [IntKind.bits, Int.toNat_natCast, hm, Int.one_mul]
  have e : (2 : Int) ^ n = ((2 ^ n : Nat) : Int) := by simp
  rw [e]
  generalize 2 ^ n = m at *
  rw [wrap64 ⟨by omega, by omega⟩]

theorem shrN {a v : Nat} (h : v ≤ 60) : binD .shr .num (.i .i64 a) (.i .i64 v) = some (.i .i64 ((a / 2 ^ v : Nat) : Int)) := by
  have hm : min v 64 = v := by omega
  simp only [binD, shOp]
  rw [if_neg (by omega)]
  simp only [IntKind.bits, Int.toNat_natCast, hm]
  have e : (2 : Int) ^ v = ((2 ^ v : Nat) : Int) := by simp
  rw [e, ← Int.ofNat_fdiv]

theorem remN {a b : Nat} (h : 0 < b) : binD .rem .num (.i .i64 a) (.i .i64 b) = some (.i .i64 ((a % b : Nat) : Int)) := by
  simp only [binD, intOp, if_true]
  rw [if_neg (by omega), Int.ofNat_tmod]

/-! Lists of truth values. -/
def eBools (nl : Bool) (l : List Bool) : D := .sl 1 nl (l.map fun b => [.b b]) .ro
@[simp] theorem noRef_bools (nl : Bool) (l : List Bool) : noRef (eBools nl l) = true := by
  simp only [eBools, noRef, Bool.true_and]
  exact noRefLL_map (fun b : Bool => [D.b b]) (fun _ => rfl) l
@[simp] theorem strip_bools (nl : Bool) (l : List Bool) : strip (eBools nl l) = eBools nl l := (rfl)
@[simp] theorem stripT_bools (nl : Bool) (l : List Bool) : stripT (eBools nl l) = eBools nl l := (rfl)
@[simp] theorem len_bools (nl : Bool) (l : List Bool) : lenD false (eBools nl l) = some (.i .i64 l.length) := by simp [eBools, lenD]
/-- A slice that may be appended to, or the empty literal. -/
def LivC (S : Store) (nl : Bool) (n : Nat) (o : Own) : Prop := Liv S nl n o ∨ (nl = false ∧ n = 0 ∧ o = .cap0)

theorem app_livC {k : Nat} {nl n' : Bool} {xs ys : List (List D)} {o o' : Own} {S : Store} (h : LivC S nl xs.length o) (hl : xs.length + ys.length ≤ maxLenD) (hy : ys ≠ []) :
    ∃ t S', appD k false (.sl k nl xs o) (.sl k n' ys o') S = some (.sl k false (xs ++ ys) (.tok t), S') ∧ sget S' t = some (.tok true) ∧ Pres S S' := by
  rcases h with h | ⟨rfl, h2, rfl⟩
  · obtain ⟨t, S', e, a, b, _⟩ := app_liv h hl hy
    exact ⟨t, S', e, a, b⟩
  · have : xs = [] := List.length_eq_zero_iff.1 h2
    subst this
    refine ⟨S.length, .tok true :: S, ?_, by simp, Pres.push _ _⟩
    rw [app_cap0 S (by simpa using hl), if_neg hy]
    rfl

theorem LivC.tok {S : Store} {t n : Nat} (h : sget S t = some (.tok true)) : LivC S false n (.tok t) := .inl (.inr ⟨rfl, t, rfl, h⟩)
theorem LivC.false {S : Store} {nl : Bool} {n : Nat} {o : Own} (h : LivC S nl n o) (hn : 0 < n) : nl = false := by
  rcases h with (⟨_, h, _⟩ | ⟨h, _⟩) | ⟨h, _⟩
  · omega
  · exact h
  · exact h
theorem LivC.push {S : Store} {nl : Bool} {n : Nat} {o : Own} (e : Ent) (h : LivC S nl n o) : LivC (e :: S) nl n o := by
  rcases h with h | h
  · exact .inl (h.push e)
  · exact .inr h

end Go.Proofs.YtjlmeikcfdanmaaGreatDoor.DE.V

namespace Go.Proofs.YtjlmeikcfdanmaaGreatDoor.DE.V
open Go BT

theorem pow7 {n : Nat} (h : n ≤ 7) : 2 ^ n ≤ 128 := by
  have := Nat.pow_le_pow_right (show 0 < 2 by omega) h
  simpa using this

end Go.Proofs.YtjlmeikcfdanmaaGreatDoor.DE.V

namespace Go.Proofs.YtjlmeikcfdanmaaGreatDoor.BT

/-! Setting one bit of a small number. -/
end Go.Proofs.YtjlmeikcfdanmaaGreatDoor.BT

namespace Go.Proofs.YtjlmeikcfdanmaaGreatDoor.DE
open Go

/-! slices.Contains[[]lineage/api.RowID,lineage/api.RowID] -/
def s65 (cf : CallF) (a0 a1 : D) (S : Store) (Post : PT) : Prop :=
  bxx 2 true a1 S fun x1 S2 =>
  OX (ldD S2 2 true x1) fun x3 =>
  OX (isoCall cf 50 [a0, x3]) fun x4 =>
  OX (binD .geq .num x4 (.i .i64 0)) fun x5 =>
  Post x5 S2
theorem e65 (cf : CallF) (a0 a1 : D) (S : Store) (Post : PT) : wp cf c65 (frame0 d65 [a0, a1]) S (FinK d65.res Post) = s65 cf a0 a1 S Post := wpS_of (by kernel_rfl)
theorem i65 (a0 a1 : D) (r : D) (ha : noRefL (stripL [a0, a1]) = true) (hr : noRef r = true) (h : s65 (call dp) (strip a0) (strip a1) [] fun d _ => stripT d = r) : isoCall (call dp) 65 [a0, a1] = some r := iso_s (f := d65) rfl ⟨rfl, by decide⟩ ha hr (by rw [← e65] at h; exact h)
/-! lineage/bdd.Eval -/
def s37_r0 (cf : CallF) (a1 a2 a4 a5 a13 : D) (S : Store) (Q : QT) : Prop :=
  OX (binD .eql .num a5 (.i .i64 1)) fun x1 =>
  Q .ret (mkf 34 [(1, .top), (2, .top), (4, x1), (5, .top), (13, .top)]) S
theorem e37_r0 (cf : CallF) (a1 a2 a4 a5 a13 : D) (S : Store) (Q : QT) : wp cf c37_r0 (mkf 34 [(1, a1), (2, a2), (4, a4), (5, a5), (13, a13)]) S Q = s37_r0 cf a1 a2 a4 a5 a13 S Q := wpS_of (by kernel_rfl)
def s37_0 (cf : CallF) (a1 a2 a4 a5 a13 : D) (S : Store) (Q : QT) : Prop :=
  OX (binD .geq .num a5 (.i .i64 2)) fun x2 =>
  WB x2
  (OX (faD 1 a2) fun x3 =>
  OX (ldD S 1 false x3) fun x4 =>
  OX (binD .sub .num a5 (.i .i64 2)) fun x5 =>
  OX (iaD 3 x4 x5) fun x6 =>
  OX (ldD S 3 true x6) fun x7 =>
  al [.i .i64 0, .i .i64 0, .i .i64 0] S fun x8 S9 =>
  OX (stD S9 3 true x8 x7) fun S11 =>
  OX (faD 0 a2) fun x12 =>
  OX (ldD S11 1 false x12) fun x13 =>
  OX (faD 0 x8) fun x14 =>
  OX (ldD S11 1 false x14) fun x15 =>
  OX (iaD 2 x13 x15) fun x16 =>
  OX (ldD S11 2 true x16) fun x17 =>
  OX (isoCall cf 65 [a1, x17]) fun x18 =>
  jn (fun (y20 y21 y22 y23 : D) (S24 : Store) =>
  Q .normal (mkf 34 [(1, y20), (2, y21), (4, y22), (5, y23), (13, .top)]) S24) fun k19 =>
  WB x18
  (OX (faD 2 x8) fun x25 =>
  OX (ldD S11 1 false x25) fun x26 =>
  k19 a1 a2 a4 x26 S11)
  (OX (faD 1 x8) fun x27 =>
  OX (ldD S11 1 false x27) fun x28 =>
  k19 a1 a2 a4 x28 S11))
  (Q (.exit 0) (mkf 34 [(1, a1), (2, a2), (4, a4), (5, a5), (13, x2)]) S)
theorem e37_0 (cf : CallF) (a1 a2 a4 a5 a13 : D) (S : Store) (Q : QT) : wp cf c37_0 (fkill (mkf 34 [(1, a1), (2, a2), (4, a4), (5, a5), (13, a13)]) []) S Q = s37_0 cf a1 a2 a4 a5 a13 S Q := wpS_of (by kernel_rfl)
def s37 (cf : CallF) (a0 a1 : D) (S : Store) (Post : PT) : Prop :=
  bxx 3 true a0 S fun x29 S30 =>
  OX (ldD S30 3 true x29) fun x31 =>
  OX (isoCall cf 33 [x31]) fun x32 =>
  OX (unD .not x32) fun x33 =>
  WB x33
  (Post (.b false) S30)
  (OX (faD 2 x29) fun x34 =>
  OX (ldD S30 1 false x34) fun x35 =>
  W cf (.loop [] c37_0) (mkf 34 [(1, a1), (2, x29), (4, .top), (5, x35), (13, .top)]) S30 (Qblk 0 (QS cf c37_r0 (FinK [.t 4] Post))))
theorem e37 (cf : CallF) (a0 a1 : D) (S : Store) (Post : PT) : wp cf c37 (frame0 d37 [a0, a1]) S (FinK d37.res Post) = s37 cf a0 a1 S Post := wpS_of (by kernel_rfl)
theorem i37 (a0 a1 : D) (r : D) (ha : noRefL (stripL [a0, a1]) = true) (hr : noRef r = true) (h : s37 (call dp) (strip a0) (strip a1) [] fun d _ => stripT d = r) : isoCall (call dp) 37 [a0, a1] = some r := iso_s (f := d37) rfl ⟨rfl, by decide⟩ ha hr (by rw [← e37] at h; exact h)
/-! lineage/lineageref11.Fixed -/
/-! lineage/lineageref11.Present -/
/-! lineage/lineageref11.Support -/
/-! lineage/lineageref02.Normalize -/
/-! lineage/lineageref02.insert -/
/-! lineage/lineageref02.In -/
/-! lineage/lineageref02.Compare -/
/-! lineage/bdd.Support -/
/-! lineage/lineagelaw11.BddRestrict -/
end Go.Proofs.YtjlmeikcfdanmaaGreatDoor.DE

namespace Go.Proofs.YtjlmeikcfdanmaaGreatDoor.DE.V
open Go BT
set_option maxRecDepth 20000

theorem ixOf_mem {r : Row} : ∀ {l : List Row}, 0 ≤ ixOf r l ↔ r ∈ l
  | [] => by simp [ixOf]
  | x :: l => by
    have ih := ixOf_mem (r := r) (l := l)
    simp only [ixOf, List.mem_cons]
    split
    · rename_i h; simp [h]
    · rename_i h
      have hx : ¬ r = x := fun e => h e.symm
      simp only [hx, false_or, ← ih]
      split <;> omega

theorem v65 (nl : Bool) (l : List Row) (r : Row) (hb : Bd l.length) : isoCall (call dp) 65 [eRows nl l, .agg (eRow r)] = some (.b (decide (r ∈ l))) := by
  apply i65 _ _ _ (by simp [noRefL]) rfl
  have e := v50 nl l r hb
  have : decide (r ∈ l) = decide (0 ≤ ixOf r l) := by rw [decide_eq_decide, ixOf_mem]
  rw [this]
  simp [-OX_b, s65, e]

/-- The rows that are present. -/
def asg (ord rs : List Row) (i : Nat) : Bool := match ord[i]? with
  | some r => decide (r ∈ rs)
  | none => false

theorem asg_get {ord rs : List Row} {i : Nat} {r : Row} (h : ord[i]? = some r) : asg ord rs i = decide (r ∈ rs) := by simp [asg, h]

open Classical in
theorem v37 (nl nl' n2 : Bool) (ord rs : List Row) (t : T) (hn : nl = true → ord = []) (h7 : ord.length ≤ 7) (ho : OrdOk ord) (w : Wf ord.length t) (hr : Bd rs.length) :
    isoCall (call dp) 37 [eT nl nl' ord t, eRows n2 rs] = some (.b (fn t (asg ord rs))) := by
  have hsm := small h7 w
  obtain ⟨hL, hs, hw⟩ := post_nil t
  have hw := hw _ w
  have e33 : isoCall (call dp) 33 [eT nl nl' ord t] = some (.b true) := by
    have := v33 nl nl' ord (nds (post t [])) (code (post t []) t) hn (by rw [nds_len]; unfold Bd; omega) (by unfold Bd; omega)
    rw [decide_eq_true (VB_VT.2 ⟨t, VT_eT ho h7 w⟩)] at this
    exact this
  simp only [eT] at e33 ⊢
  generalize hLd : post t [] = L at *
  apply i37 _ _ _ (by simp [noRefL]) rfl
  rw [strip_eB]
  simp only [eB] at e33 ⊢
  simp [s37, e33]
  let J : Nat → List D → Store → Prop := fun q fr S => ∃ t' a4 a13, t'.size = q ∧ sub L t' ∧ fn t' (asg ord rs) = fn t (asg ord rs) ∧ sget S 0 = some (.box [eRows nl ord, eNds nl' (nds L), .i .i64 (code L t)]) ∧
    fr = mkf 34 [(1, eRows n2 rs), (2, .bx 0 0), (4, a4), (5, .i .i64 (code L t')), (13, a13)]
  refine W_loop J ?_ t.size _ _ ⟨t, _, _, rfl, hs, rfl, rfl, rfl⟩
  rintro q fr S ⟨t', a4, a13, rfl, ht', hf, hS, rfl⟩
  rw [← wp_W, e37_0]
  have l0 := sget_lt hS
  cases t' with
  | leaf b =>
    have : ¬ 2 ≤ code L (.leaf b) := by have := code_leaf_lt L b; omega
    simp [s37_0, this, e37_r0, s37_r0]
    rw [← hf]
    cases b <;> simp [code, fn]
  | node v l h =>
    have hge := code_node_ge L v l h
    have hlt := code_lt ht'
    have hpos : (code L (.node v l h) - 2).toNat = pos L (.node v l h) := by simp only [code]; omega
    have hwt := hw _ ht'
    have hkid := Cl_kids hL _ ht'
    have hia := iaD_nds' (nl := nl') .i64 (show 0 ≤ code L (.node v l h) - 2 by omega) (by rw [hpos]; exact nds_get ht')
    obtain ⟨x, hx⟩ : ∃ x, ord[v]? = some x := ⟨_, List.getElem?_eq_getElem hwt.1⟩
    have hir := iaD_rows (nl := nl) .i64 hx
    have e65 := v65 n2 rs x hr
    simp [-OX_b, s37_0, hge, hS, wrap64 (n := code L (.node v l h) - 2) ⟨by omega, by omega⟩, hia, nd, sget_push hS, hir, e65, jn_eq]
    by_cases hb : x ∈ rs
    · simp [hb]
      refine ⟨h.size, by simp only [T.size]; omega, h, _, _, rfl, hkid.2, ?_, sget_push hS, rfl⟩
      rw [← hf]; simp [fn, asg_get hx, hb]
    · simp [hb]
      refine ⟨l.size, by simp only [T.size]; omega, l, _, _, rfl, hkid.1, ?_, sget_push hS, rfl⟩
      rw [← hf]; simp [fn, asg_get hx, hb]

end Go.Proofs.YtjlmeikcfdanmaaGreatDoor.DE.V

namespace Go.Proofs.YtjlmeikcfdanmaaGreatDoor.DE.V
open Go BT
set_option linter.unusedSimpArgs false
set_option linter.unusedVariables false

section
variable {α : Type} (v : α → List Row)
def vaIt (p : Vl × α) : List Row := v p.2
def vaFc (f : Fc α) : List Row := (if f.kind = 0 then [f.row] else []) ++ (f.args.flatMap v ++ f.items.flatMap (vaIt v))
def vaTm (t : Tm α) : List Row := t.fs.flatMap (vaFc v)
def vaAn (x : An α) : List Row := x.ts.flatMap (vaTm v)
end
def vaAnn : (n : Nat) → Ann n → List Row
  | 0, x => nomatch x
  | n + 1, x => vaAn (vaAnn n) x

def flT {α β : Type} (f : α → List β) (l : List α) (k : Nat) : List β := (l.take k).flatMap f
theorem flT_succ {α β : Type} (f : α → List β) {l : List α} {k : Nat} {x : α} (h : l[k]? = some x) : flT f l (k + 1) = flT f l k ++ f x := by
  simp only [flT]; rw [take_snoc h]; simp
theorem flT_all {α β : Type} (f : α → List β) {l : List α} {k : Nat} (h : l.length ≤ k) : flT f l k = l.flatMap f := by rw [flT, List.take_of_length_le h]
theorem flT_len {α β : Type} (f : α → List β) {l : List α} {k : Nat} {x : α} (h : l[k]? = some x) : (flT f l k).length + (f x).length ≤ (l.flatMap f).length := by
  have h1 : l.flatMap f = flT f l (k + 1) ++ (l.drop (k + 1)).flatMap f := by rw [flT, ← List.flatMap_append, List.take_append_drop]
  rw [h1, flT_succ f h]
  simp only [List.length_append]; omega

/-- The list that grows. -/
def OutOk (S : Store) (ob : Nat) (L : List Row) : Prop := ∃ nl o, sget S ob = some (.box [.sl 2 nl (L.map eRow) o]) ∧ Liv S nl L.length o
def PresX (ob : Nat) (S S' : Store) : Prop := S.length ≤ S'.length ∧ ∀ id cs, id ≠ ob → sget S id = some (.box cs) → sget S' id = some (.box cs)
theorem PresX.refl (ob : Nat) (S : Store) : PresX ob S S := ⟨Nat.le_refl _, fun _ _ _ h => h⟩
theorem PresX.trans {ob : Nat} {S S' S'' : Store} (h : PresX ob S S') (k : PresX ob S' S'') : PresX ob S S'' := ⟨Nat.le_trans h.1 k.1, fun id cs q e => k.2 id cs q (h.2 id cs q e)⟩
theorem PresX.push (ob : Nat) (e : Ent) (S : Store) : PresX ob S (e :: S) := ⟨by simp, fun _ _ _ h => sget_push h⟩
theorem OutOk.push {S : Store} {ob : Nat} {L : List Row} (e : Ent) (h : OutOk S ob L) : OutOk (e :: S) ob L := by
  obtain ⟨nl, o, h1, h2⟩ := h
  exact ⟨nl, o, sget_push h1, h2.push e⟩
theorem OutOk.lt {S : Store} {ob : Nat} {L : List Row} (h : OutOk S ob L) : ob < S.length := by obtain ⟨nl, o, h1, _⟩ := h; exact sget_lt h1

@[simp] theorem FinK_ret0 (Post : D → Store → Prop) (fr : List D) (S : Store) : FinK [] Post .ret fr S = Post (.tup []) S := (rfl)

section
variable {α : Type} {e : α → D}
theorem v104 (he : GE e) (f : Fc α) {S : Store} {ob : Nat} {L : List Row} (h : OutOk S ob L) (hl : L.length ≤ 1000) :
    ∃ r S', call dp 104 [.agg (eAt e f), .bx ob 0] S = some (r, S') ∧ OutOk S' ob (L ++ (if f.kind = 0 then [f.row] else [])) ∧ PresX ob S S' := by
  refine f104 _ _ _ (fun r S' => OutOk S' ob (L ++ (if f.kind = 0 then [f.row] else [])) ∧ PresX ob S S') ?_
  have hlt := h.lt
  simp [s104, jn]
  split
  · rename_i h0
    obtain ⟨nl, o, h1, h2⟩ := h
    have hpush : sget (Ent.box (eAt e f) :: S) ob = _ := sget_push h1
    obtain ⟨t, S', q1, q2, q3, q4, q5, q6, q7⟩ := app_liv (k := 2) (n' := false) (xs := L.map eRow) (ys := [eRow f.row]) (o' := .ro) (S := Ent.box (eAt e f) :: S) (by simpa using h2.push _) (by simp [maxLenD]; omega) (by simp)
    have hob := q3 _ _ hpush
    have hne : ¬ ob = S.length := by omega
    simp [hne, h1, q1, hob]
    have htne : t ≠ ob := by rw [q6]; simp; omega
    refine ⟨⟨false, .tok t, ?_, .inr ⟨rfl, t, rfl, ?_⟩⟩, ?_⟩
    · rw [sget_sset _ (sget_lt hob)]; simp
    · rw [sget_sset_ne _ htne]; exact q2
    · refine ⟨by rw [sset_len, q5]; simp; omega, fun id cs hid hcs => ?_⟩
      rw [sget_sset_ne _ hid]
      exact q3 _ _ (sget_push hcs)
  · simp
    exact ⟨h.push _, PresX.push _ _ _⟩

variable {v : α → List Row} {ok : α → Prop}

def EvsO (e : α → D) (ok : α → Prop) (v : α → List Row) : Prop := ∀ a ob L S, ok a → OutOk S ob L → L.length + (v a).length ≤ 1000 → ∃ r S', call dp 103 [e a, .fn 104 [.bx ob 0]] S = some (r, S') ∧ OutOk S' ob (L ++ v a) ∧ PresX ob S S'

set_option maxHeartbeats 1000000 in
theorem v103s (he : GE e) (H : EvsO e ok v) : EvsO (eAn e) (OkAn ok) (vaAn v) := by
  intro x ob L S0 hx hout hlen
  have hxl := hx.len
  refine f103 _ _ _ (fun r S' => OutOk S' ob (L ++ vaAn v x) ∧ PresX ob S0 S') ?_
  simp [s103]
  let J : Nat → List D → Store → Prop := fun q fr S => ∃ k b7 b15 b19 b20 b21 b22 b31 b32 b33 b34 b43 b44 b45 b46, fr = mkf 56 [(1, .fn 104 [.bx ob 0]), (7, b7), (12, eAn e x), (13, .i .i64 x.ts.length), (14, .i .i64 (k : Nat)), (15, b15), (19, b19), (20, b20), (21, b21), (22, b22), (31, b31), (32, b32), (33, b33), (34, b34), (43, b43), (44, b44), (45, b45), (46, b46)] ∧ k + q = x.ts.length ∧ OutOk S ob (L ++ flT (vaTm v) x.ts k) ∧ PresX ob S0 S
  refine W_loop J ?_ x.ts.length _ _ ⟨0, _, _, _, _, _, _, _, _, _, _, _, _, _, _, rfl, by simp, by simpa [flT] using hout, PresX.refl _ _⟩
  intro q fr S hJ; obtain ⟨k, b7, b15, b19, b20, b21, b22, b31, b32, b33, b34, b43, b44, b45, b46, hfr, hk, ho, hp⟩ := hJ; rw [hfr]
  rw [← wp_W, e103_3]
  simp [s103_3]
  split
  · rename_i h
    obtain ⟨t, ht⟩ := get_lt (l := x.ts) (k := k) (by omega)
    have hot := hx.ts t (List.mem_of_getElem? ht)
    have htl := hot.len
    have hz := flT_len (vaTm v) ht
    have hz' : (x.ts.flatMap (vaTm v)).length = (vaAn v x).length := rfl
    simp [iaD_eAn e _ ht]
    obtain ⟨L2, hL2⟩ : ∃ L2, L2 = L ++ flT (vaTm v) x.ts k := ⟨_, rfl⟩
    have hL2l : L2.length = L.length + (flT (vaTm v) x.ts k).length := by rw [hL2]; simp
    rw [← hL2] at ho
    let J2 : Nat → List D → Store → Prop := fun q fr S => ∃ i b7 b15 b22 b31 b32 b33 b34 b43 b44 b45 b46, fr = mkf 56 [(1, .fn 104 [.bx ob 0]), (7, b7), (12, eAn e x), (13, .i .i64 x.ts.length), (14, .i .i64 (k : Nat)), (15, b15), (19, eFcs e t.nl t.fs), (20, .i .i64 t.fs.length), (21, .i .i64 (i : Nat)), (22, b22), (31, b31), (32, b32), (33, b33), (34, b34), (43, b43), (44, b44), (45, b45), (46, b46)] ∧ i + q = t.fs.length ∧ OutOk S ob (L2 ++ flT (vaFc v) t.fs i) ∧ PresX ob S0 S
    refine W_loop J2 ?_ t.fs.length _ _ ⟨0, _, _, _, _, _, _, _, _, _, _, _, rfl, by simp, by simpa [flT] using ho.push _, hp.trans (PresX.push _ _ _)⟩
    intro q2 fr S hJ; obtain ⟨i, b7, b15, b22, b31, b32, b33, b34, b43, b44, b45, b46, hfr, hi, ho2, hp2⟩ := hJ; rw [hfr]
    rw [← wp_W, e103_2]
    simp [s103_2]
    split
    · rename_i h2
      obtain ⟨f, hf⟩ := get_lt (l := t.fs) (k := i) (by omega)
      have hof := hot.fs f (List.mem_of_getElem? hf)
      have hal := hof.alen
      have hil := hof.ilen
      have hz2 := flT_len (vaFc v) hf
      have hz2' : (t.fs.flatMap (vaFc v)).length = (vaTm v t).length := rfl
      obtain ⟨K0, hK0⟩ : ∃ K0 : List Row, K0 = if f.kind = 0 then [f.row] else [] := ⟨_, rfl⟩
      have hz3 : (vaFc v f).length = K0.length + ((f.args.flatMap v).length + (f.items.flatMap (vaIt v)).length) := by rw [vaFc, ← hK0]; simp
      obtain ⟨id, hid⟩ : ∃ id, id = S.length := ⟨_, rfl⟩
      obtain ⟨r, S1, c1, o1, p1⟩ := v104 he f (ho2.push (Ent.box (eFc e f))) (by simp only [List.length_append]; omega)
      rw [← hK0] at o1
      have hob := ho2.lt
      have hS1 : sget S1 id = some (.box (eFc e f)) := p1.2 _ _ (by omega) (by rw [hid]; exact sget_top _ _)
      simp [iaD_eFcs e _ hf, c1]
      rw [← hid]
      simp [hS1]
      obtain ⟨L3, hL3⟩ : ∃ L3, L3 = L2 ++ flT (vaFc v) t.fs i ++ K0 := ⟨_, rfl⟩
      have hL3l : L3.length = L2.length + (flT (vaFc v) t.fs i).length + K0.length := by rw [hL3]; simp only [List.length_append]
      rw [← hL3] at o1
      let J3 : Nat → List D → Store → Prop := fun q fr S => ∃ j b15 b22 b34 b43 b44 b45 b46, fr = mkf 56 [(1, .fn 104 [.bx ob 0]), (7, .bx id 0), (12, eAn e x), (13, .i .i64 x.ts.length), (14, .i .i64 (k : Nat)), (15, b15), (19, eFcs e t.nl t.fs), (20, .i .i64 t.fs.length), (21, .i .i64 (i : Nat)), (22, b22), (31, eArgs e f.anl f.args), (32, .i .i64 f.args.length), (33, .i .i64 (j : Nat)), (34, b34), (43, b43), (44, b44), (45, b45), (46, b46)] ∧ j + q = f.args.length ∧ OutOk S ob (L3 ++ flT v f.args j) ∧ PresX ob S0 S ∧ sget S id = some (.box (eFc e f))
      refine W_loop J3 ?_ f.args.length _ _ ⟨0, _, _, _, _, _, _, _, rfl, by simp, by simpa [flT] using o1, (hp2.trans (PresX.push _ _ _)).trans p1, hS1⟩
      intro q3 fr S hJ; obtain ⟨j, b15, b22, b34, b43, b44, b45, b46, hfr, hj, ho3, hp3, hS⟩ := hJ; rw [hfr]
      rw [← wp_W, e103_1]
      simp [s103_1]
      split
      · rename_i h3
        obtain ⟨a, ha⟩ := get_lt (l := f.args) (k := j) (by omega)
        have hz4 := flT_len v ha
        obtain ⟨r, S2, c2, o2, p2⟩ := H a ob _ S (hof.args a (List.mem_of_getElem? ha)) ho3 (by simp only [List.length_append]; omega)
        simp [iaD_eArgs e _ ha, c2]
        rw [wrapL (k := j) h3 hof.alen]
        have hob3 := ho3.lt
        exact ⟨q3 - 1, by omega, ⟨j + 1, _, _, _, _, _, _, _, rfl, by omega, by rw [flT_succ _ ha, ← List.append_assoc]; exact o2, hp3.trans p2, p2.2 _ _ (by rintro rfl; obtain ⟨_, _, hbad, _⟩ := ho3; rw [hS] at hbad; injection hbad with hbad; injection hbad with hbad; simp [eFc] at hbad) hS⟩⟩
      · have hje := flT_all v (show f.args.length ≤ j by omega)
        rw [hje] at ho3
        simp [e103_r0, s103_r0, hS]
        obtain ⟨L4, hL4⟩ : ∃ L4, L4 = L3 ++ f.args.flatMap v := ⟨_, rfl⟩
        have hL4l : L4.length = L3.length + (f.args.flatMap v).length := by rw [hL4]; simp only [List.length_append]
        rw [← hL4] at ho3
        let J4 : Nat → List D → Store → Prop := fun q fr S => ∃ j b7 b15 b22 b31 b32 b33 b34 b46, fr = mkf 56 [(1, .fn 104 [.bx ob 0]), (7, b7), (12, eAn e x), (13, .i .i64 x.ts.length), (14, .i .i64 (k : Nat)), (15, b15), (19, eFcs e t.nl t.fs), (20, .i .i64 t.fs.length), (21, .i .i64 (i : Nat)), (22, b22), (31, b31), (32, b32), (33, b33), (34, b34), (43, eItems e f.inl f.items), (44, .i .i64 f.items.length), (45, .i .i64 (j : Nat)), (46, b46)] ∧ j + q = f.items.length ∧ OutOk S ob (L4 ++ flT (vaIt v) f.items j) ∧ PresX ob S0 S
        refine W_loop J4 ?_ f.items.length _ _ ⟨0, _, _, _, _, _, _, _, _, rfl, by simp, by simpa [flT] using ho3, hp3⟩
        intro q4 fr S hJ; obtain ⟨j, b7, b15, b22, b31, b32, b33, b34, b46, hfr, hj, ho4, hp4⟩ := hJ; rw [hfr]
        rw [← wp_W, e103_0]
        simp [s103_0]
        split
        · rename_i h4
          obtain ⟨p, hp⟩ := get_lt (l := f.items) (k := j) (by omega)
          have hz5 := flT_len (vaIt v) hp
          have hz5' : (vaIt v p).length = (v p.2).length := rfl
          obtain ⟨r, S2, c2, o2, p2⟩ := H p.2 ob _ (Ent.box (eIt e p) :: S) (hof.items p (List.mem_of_getElem? hp)).2 (ho4.push _) (by simp only [List.length_append]; omega)
          simp [iaD_eItems e _ hp, cellsK_it e he, c2]
          rw [wrapL (k := j) h4 hof.ilen]
          exact ⟨q4 - 1, by omega, ⟨j + 1, _, _, _, _, _, _, _, _, rfl, by omega, by rw [flT_succ _ hp, ← List.append_assoc]; exact o2, (hp4.trans (PresX.push _ _ _)).trans p2⟩⟩
        · have hje := flT_all (vaIt v) (show f.items.length ≤ j by omega)
          rw [hje] at ho4
          simp [e103_r1, s103_r1]
          rw [wrapL (k := i) h2 hot.len]
          refine ⟨q2 - 1, by omega, ⟨i + 1, _, _, _, _, _, _, _, _, _, _, _, rfl, by omega, ?_, hp4⟩⟩
          rw [flT_succ _ hf, vaFc, ← hK0]
          rw [hL4, hL3] at ho4
          simpa only [List.append_assoc] using ho4
    · have hje := flT_all (vaFc v) (show t.fs.length ≤ i by omega)
      rw [hje] at ho2
      simp [e103_r2, s103_r2]
      rw [wrapL (k := k) h hx.len]
      refine ⟨q - 1, by omega, ⟨k + 1, _, _, _, _, _, _, _, _, _, _, _, _, _, _, rfl, by omega, ?_, hp2⟩⟩
      rw [flT_succ _ ht, ← List.append_assoc, ← hL2]
      exact ho2
  · have hje := flT_all (vaTm v) (show x.ts.length ≤ k by omega)
    rw [hje] at ho
    exact ⟨ho, hp⟩
end

theorem v103 : ∀ n, EvsO (eAnn n) (OkAnn n) (vaAnn n)
  | 0 => fun x => nomatch x
  | n + 1 => v103s (GE_eAnn n) (v103 n)

/-! Not more variables than the annotation weighs. -/
theorem flat_len {α β : Type} {f : α → List β} {g : α → Nat} : ∀ {l : List α}, (∀ x, x ∈ l → (f x).length ≤ g x) → (l.flatMap f).length ≤ (l.map g).sum
  | [], _ => Nat.le_refl _
  | x :: l, h => by have := flat_len (l := l) fun y hy => h y (by simp [hy]); have := h x (by simp); simp only [List.flatMap_cons, List.length_append, List.map_cons, List.sum_cons]; omega
section
variable {α : Type} {v : α → List Row} {w : α → Nat}
theorem vaFc_le (h : ∀ a, (v a).length ≤ w a) (f : Fc α) : (vaFc v f).length ≤ 1 + wFc w f := by
  have h1 := flat_len (l := f.args) (f := v) (g := w) fun x _ => h x
  have h2 := flat_len (l := f.items) (f := vaIt v) (g := wIt w) fun x _ => by have := h x.2; simp only [vaIt, wIt]; omega
  have h3 : (if f.kind = 0 then [f.row] else []).length ≤ 1 := by split <;> simp
  simp only [vaFc, List.length_append, wFc]; omega
theorem vaTm_le (h : ∀ a, (v a).length ≤ w a) (t : Tm α) : (vaTm v t).length ≤ wTm w t := by
  have h1 := flat_len (l := t.fs) (f := vaFc v) (g := fun f => 1 + wFc w f) fun x _ => vaFc_le h x
  rw [sum_one] at h1
  simp only [vaTm, wTm]; omega
theorem vaAn_le (h : ∀ a, (v a).length ≤ w a) (x : An α) : (vaAn v x).length ≤ wAn w x := flat_len fun t _ => vaTm_le h t
end
theorem vaAnn_le : ∀ n x, (vaAnn n x).length ≤ wAnn n x
  | 0, x => nomatch x
  | n + 1, x => vaAn_le (vaAnn_le n) x

theorem Asc_nodup {s : List Row} (h : Asc s) : s.Nodup := List.Pairwise.imp (fun {a b} hab e => by subst e; simp [ltR, cmpZ, cmpI] at hab) h

theorem v63 (x : SA) (hx : okS x) (hw : wS x ≤ 40) : ∃ s nl, isoCall (call dp) 63 [eS x] = some (eRows nl s) ∧ (∀ r, r ∈ s ↔ r ∈ vaAnn x.1 x.2) ∧ s.length ≤ 1000000 := by
  have hl := vaAnn_le x.1 x.2
  have hl' : (vaAnn x.1 x.2).length ≤ 40 := Nat.le_trans hl hw
  suffices hh : ∃ d, isoCall (call dp) 63 [eS x] = some d ∧ ∃ s nl, d = eRows nl s ∧ (∀ r, r ∈ s ↔ r ∈ vaAnn x.1 x.2) ∧ s.length ≤ 1000000 by
    obtain ⟨d, h1, s, nl, rfl, h2⟩ := hh
    exact ⟨s, nl, h1, h2⟩
  apply j63 _ _ (by simp [noRefL, (GE_eAnn _).noRef, GE_eS.noRef, GE_eS.strip]) (by rintro d ⟨s, nl, rfl, _⟩; simp)
  have hstr : strip (eS x) = eS x := GE_eS.strip x
  simp only [s63, hstr, al_eq]
  obtain ⟨r, S', c1, ⟨nl, o, o1, o2⟩, p1⟩ := v103 x.1 x.2 0 [] [Ent.box [.sl 2 true [] .ro]] hx ⟨true, .ro, rfl, .inl ⟨rfl, rfl, rfl⟩⟩ (by simp; omega)
  have c1 : call dp 103 [eS x, .fn 104 [.bx 0 0]] [Ent.box [.sl 2 true [] .ro]] = some (r, S') := c1
  have hnl : nl = true → ([] ++ vaAnn x.1 x.2) = [] := by
    rcases o2 with ⟨_, h, _⟩ | ⟨h, _⟩
    · intro _; exact List.length_eq_zero_iff.1 h
    · rw [h]; intro h; cases h
  obtain ⟨s, nl', e81, hs, hm, hn'⟩ := v81 nl ([] ++ vaAnn x.1 x.2) hnl (by simp; omega)
  have e81' : isoCall (call dp) 81 [.sl 2 nl (([] ++ vaAnn x.1 x.2).map eRow) o] = some (eRows nl' s) := by
    rw [isoCall_strip]; exact e81
  simp only [List.length_nil, c1, OX_some, ldD_bx, o1, ldE_box, rdK_one, List.getElem?_cons_zero, e81']
  refine ⟨s, nl', rfl, fun r => by rw [hm]; simp, ?_⟩
  have hnd : s.Nodup := Asc_nodup hs
  have := nodup_len (M := s) (L := vaAnn x.1 x.2) hnd (fun r hr => by have := (hm r).1 hr; simpa using this)
  omega

theorem v64 {S : Store} {ib : Nat} {nl : Bool} {ord : List Row} (r : Row) (hb : Bd ord.length) (h : sget S ib = some (.box [eRows nl ord])) :
    ∃ d S', call dp 64 [.agg (eRow r), .bx ib 0] S = some (d, S') ∧ d = .b (!decide (r ∈ ord)) ∧ S' = .box (eRow r) :: S := by
  refine f64 _ _ _ (fun d S' => d = .b (!decide (r ∈ ord)) ∧ S' = .box (eRow r) :: S) ?_
  have := sget_lt h
  have e := v65 nl ord r hb
  simp [-OX_b, s64, h, show ¬ ib = S.length by omega, e]

theorem v102 (nl : Bool) (l : List Row) (hb : Bd l.length) {S0 : Store} {ib : Nat} {nl' : Bool} {ord : List Row} (hbo : Bd ord.length) (p : Row → Bool) (hp : p = fun r => !decide (r ∈ ord)) (h : sget S0 ib = some (.box [eRows nl' ord])) :
    ∃ r S', call dp 102 [eRows nl l, .fn 64 [.bx ib 0]] S0 = some (r, S') ∧ (∃ n : Int, r = .i .i64 n ∧ decide (0 ≤ n) = l.any p) ∧ Pres S0 S' := by
  refine f102 _ _ _ (fun r S' => (∃ n : Int, r = .i .i64 n ∧ decide (0 ≤ n) = l.any p) ∧ Pres S0 S') ?_
  simp [s102]
  let J : Nat → List D → Store → Prop := fun q fr S => ∃ k b4 b9, fr = mkf 19 [(0, eRows nl l), (1, .fn 64 [.bx ib 0]), (4, b4), (7, .i .i64 l.length), (8, .i .i64 (k : Nat)), (9, b9)] ∧ k + q = l.length ∧ l.any p = (l.drop k).any p ∧ Pres S0 S
  refine W_loop J ?_ l.length _ _ ⟨0, _, _, rfl, by simp, by simp, Pres.refl _⟩
  intro q fr S hJ; obtain ⟨k, b4, b9, hfr, hk, hc, hP⟩ := hJ; rw [hfr]
  rw [← wp_W, e102_0]
  simp [s102_0]
  split
  · rename_i hk'
    obtain ⟨x, hx⟩ := get_lt (l := l) (k := k) (by omega)
    obtain ⟨r, S', c1, rfl, rfl⟩ := v64 x hbo (hP _ _ h)
    have hpx : p x = !decide (x ∈ ord) := by rw [hp]
    rw [drop_get hx, List.any_cons] at hc
    rw [← hpx] at c1
    simp [iaD_rows _ hx, c1]
    split
    · rename_i hpx'
      simp only [hpx', Bool.true_or] at hc
      have := List.any_eq_true.1 hc
      exact ⟨by simpa using this, hP.trans (Pres.push _ _)⟩
    · rename_i hpx'
      simp only [hpx', Bool.false_or] at hc
      rw [wrapS (k := k) (hb.lt (Nat.le_of_lt hk'))]
      exact ⟨q - 1, by omega, ⟨k + 1, _, _, rfl, by omega, hc, hP.trans (Pres.push _ _)⟩⟩
  · rw [List.drop_eq_nil_of_le (show l.length ≤ k by omega)] at hc
    simp [e102_r0, s102_r0]
    exact ⟨by simpa using hc, hP⟩

theorem v62 (nl : Bool) (l : List Row) (hb : Bd l.length) {S0 : Store} {ib : Nat} {nl' : Bool} {ord : List Row} (hbo : Bd ord.length) (h : sget S0 ib = some (.box [eRows nl' ord])) :
    ∃ S', call dp 62 [eRows nl l, .fn 64 [.bx ib 0]] S0 = some (.b (l.any fun r => !decide (r ∈ ord)), S') ∧ Pres S0 S' := by
  obtain ⟨r, S', c, ⟨n, rfl, hn⟩, hp⟩ := v102 nl l hb hbo _ rfl h
  obtain ⟨d, S'', c2, rfl, h2⟩ := f62 (eRows nl l) (.fn 64 [.bx ib 0]) S0 (fun d S' => d = .b (l.any fun r => !decide (r ∈ ord)) ∧ Pres S0 S') (by
    simp only [s62, c, OX_some, bin_geq, hn]
    exact ⟨trivial, hp⟩)
  exact ⟨S'', c2, h2⟩

end Go.Proofs.YtjlmeikcfdanmaaGreatDoor.DE.V

namespace Go.Proofs.YtjlmeikcfdanmaaGreatDoor.DE.V
open Go BT
set_option linter.unusedSimpArgs false
set_option linter.unusedVariables false

/-! The trees that are built, as long as none has more than N nodes. -/
noncomputable def limT (N : Int) (t : T) : Option T := if N < ((post t []).length : Int) then none else some t

section
variable {α : Type} (b : α → Option T) (ord : List Row) (N : Int)
noncomputable def atL (kind : Int) (t : T) : List α → Option T
  | [] => none
  | c :: _ => match b c with
    | none => none
    | some s => limT N (opT ord.length false t (notT s))
noncomputable def atK (kind : Int) : List α → Option T
  | [] => none
  | a :: l => match b a with
    | none => none
    | some t => if kind = 2 then some t else if kind = 3 then some (notT t) else atL b ord N kind t l
noncomputable def atT (f : Fc α) : Option T := if f.kind = 0 then some (varT (ixOf f.row ord).toNat) else atK b ord N f.kind f.args
noncomputable def tmL : T → List (Fc α) → Option T
  | acc, [] => some acc
  | acc, f :: l => match atT b ord N f with
    | none => none
    | some x => match limT N (opT ord.length false acc x) with
      | none => none
      | some a => tmL a l
noncomputable def anL : T → List (Tm α) → Option T
  | acc, [] => some acc
  | acc, t :: l => match tmL b ord N (.leaf true) t.fs with
    | none => none
    | some x => match limT N (opT ord.length true acc x) with
      | none => none
      | some a => anL a l
noncomputable def buAn (x : An α) : Option T := anL b ord N (.leaf false) x.ts

/-- What the builder wants of an annotation. -/
def gdFc (g : α → Prop) (f : Fc α) : Prop := (f.kind = 0 ∧ f.row ∈ ord) ∨ (f.kind ≠ 0 ∧ ∃ a l, f.args = a :: l ∧ g a ∧ (f.kind = 2 ∨ f.kind = 3 ∨ ∃ c l', l = c :: l' ∧ g c))
def gdTm (g : α → Prop) (t : Tm α) : Prop := Len63 t.fs.length ∧ ∀ f, f ∈ t.fs → gdFc ord g f
def gdAn (g : α → Prop) (x : An α) : Prop := Len63 x.ts.length ∧ ∀ t, t ∈ x.ts → gdTm ord g t
end
noncomputable def buAnn (ord : List Row) (N : Int) : (n : Nat) → Ann n → Option T
  | 0, x => nomatch x
  | n + 1, x => buAn (buAnn ord N n) ord N x
def gdAnn (ord : List Row) : (n : Nat) → Ann n → Prop
  | 0, x => nomatch x
  | n + 1, x => gdAn ord (gdAnn ord n) x

noncomputable def cT (nl m : Bool) (ord : List Row) (t : T) : List D := [eRows nl ord, eNds m (nds (post t [])), .i .i64 (code (post t []) t)]
section
variable (nl m : Bool) (ord : List Row) (t : T)
@[simp] theorem cellsK_eT : cellsK 3 true (eT nl m ord t) = some (cT nl m ord t) := (rfl)
@[simp] theorem rdK_cT : rdK (cT nl m ord t) 0 3 true = some (eT nl m ord t) := (rfl)
@[simp high] theorem cT_0 : (cT nl m ord t)[0]? = some (eRows nl ord) := (rfl)
@[simp high] theorem cT_1 : (cT nl m ord t)[1]? = some (eNds m (nds (post t []))) := (rfl)
@[simp high] theorem cT_2 : (cT nl m ord t)[2]? = some (.i .i64 (code (post t []) t)) := (rfl)
@[simp] theorem splice_cT (a b c : D) : splice [a, b, c] 0 (cT nl m ord t) = cT nl m ord t := (rfl)
@[simp] theorem splice_cT' (m' : Bool) (s : T) : splice (cT nl m ord t) 0 (cT nl m' ord s) = cT nl m' ord s := (rfl)
@[simp] theorem cT_len : (cT nl m ord t).length = 3 := (rfl)
@[simp] theorem noRef_eT : noRef (eT nl m ord t) = true := by simp [eT]
@[simp] theorem strip_eT : strip (eT nl m ord t) = eT nl m ord t := (rfl)
@[simp] theorem stripT_eT : stripT (eT nl m ord t) = eT nl m ord t := (rfl)
end
@[simp] theorem cellsK_zB : cellsK 3 true zB = some [.sl 2 true [] .ro, .sl 3 true [] .ro, .i .i64 0] := (rfl)
@[simp] theorem strip_zB : strip zB = zB := (rfl)
@[simp] theorem noRef_zB : noRef zB = true := by simp [zB]
theorem agg_zB : D.agg [.sl 2 true [] .ro, .sl 3 true [] .ro, .i .i64 0] = zB := rfl
@[simp] theorem splice_z (a b c : D) : splice [a, b, c] 0 [.sl 2 true [] .ro, .sl 3 true [] .ro, .i .i64 0] = [.sl 2 true [] .ro, .sl 3 true [] .ro, .i .i64 0] := (rfl)
@[simp] theorem FinK_cell2 (n k : Nat) (g : Bool) (j : Nat) (Post : D → Store → Prop) (fr : List D) (S : Store) : FinK [.cell n k g, .t j] Post .ret fr S = OX (ldc S k g (fget fr n)) fun d => Post (.tup [d, fget fr j]) S := (rfl)
theorem bldV_z : bldV [.sl 2 true [] .ro, .sl 3 true [] .ro, .i .i64 0] [] = some [.sl 2 true [] .ro, .sl 3 true [] .ro, .i .i64 0] := rfl

/-- What a call of the builder answers. -/
def RD (nl : Bool) (ord : List Row) (o : Option T) (d : D) : Prop := match o with
  | none => d = .tup [zB, .i .i64 6]
  | some t => Wf ord.length t ∧ ∃ m, d = .tup [eT nl m ord t, .i .i64 0]

@[simp] theorem RD_err (nl : Bool) (ord : List Row) : RD nl ord none (.tup [zB, .i .i64 6]) = True := by simp [RD]
theorem RD_mk {nl m : Bool} {ord : List Row} {t : T} (w : Wf ord.length t) : RD nl ord (some t) (.tup [eT nl m ord t, .i .i64 0]) := ⟨w, m, rfl⟩

theorem RD.noRef {nl : Bool} {ord : List Row} {o : Option T} {d : D} (h : RD nl ord o d) : noRef d = true := by
  cases o with
  | none => simp only [RD] at h; subst h; simp [DE.noRef, noRefL]
  | some t => obtain ⟨_, m, rfl⟩ := h; simp [DE.noRef, noRefL]

def eBu (nl : Bool) (ord : List Row) (N : Int) : D := .agg [eRows nl ord, .i .i64 N]
@[simp] theorem strip_eBu (nl : Bool) (ord : List Row) (N : Int) : strip (eBu nl ord N) = eBu nl ord N := (rfl)
@[simp] theorem noRef_eBu (nl : Bool) (ord : List Row) (N : Int) : noRef (eBu nl ord N) = true := by simp [eBu, DE.noRef, noRefL]

theorem v106 (nl m : Bool) (ord : List Row) (N : Int) (t : T) (hs : (post t []).length ≤ 4096) : isoCall (call dp) 106 [eBu nl ord N, eT nl m ord t, .i .i64 0] = some (match limT N t with | none => .tup [zB, .i .i64 6] | some t => .tup [eT nl m ord t, .i .i64 0]) := by
  apply i106 _ _ _ _ (by simp [noRefL]) (by unfold limT; split <;> simp [DE.noRef, noRefL])
  have hstr : strip (eBu nl ord N) = eBu nl ord N := rfl
  rw [hstr]
  simp [s106, eBu, nds_len, limT]
  split
  · simp [bldV_z, agg_zB]
  · simp

variable {nl : Bool} {ord : List Row} {N : Int}

/-- The builder's calls on nested annotations. -/
def BuOk {α : Type} (nl : Bool) (ord : List Row) (N : Int) (e : α → D) (g : α → Prop) (b : α → Option T) : Prop := ∀ a, g a → ∃ r, isoCall (call dp) 66 [eBu nl ord N, e a] = some r ∧ RD nl ord (b a) r

theorem limT_le {N : Int} {t s : T} (h : limT N t = some s) : s = t := by unfold limT at h; split at h; cases h; injection h with h; exact h.symm

theorem v160 {α : Type} {e : α → D} {g : α → Prop} {b : α → Option T} (he : GE e) (ho : OrdOk ord) (h7 : ord.length ≤ 7) (hn : nlOk nl ord) (H : BuOk nl ord N e g b) (f : Fc α) (hf : gdFc ord g f) :
    ∃ r, isoCall (call dp) 160 [eBu nl ord N, .agg (eAt e f)] = some r ∧ RD nl ord (atT b ord N f) r := by
  apply j160 _ _ (RD nl ord (atT b ord N f)) (by simp [noRefL, noRef_agAt he]) (fun r h => h.noRef)
  have hstr : strip (eBu nl ord N) = eBu nl ord N := rfl
  rw [hstr, strip_agAt]
  have h66 : ∀ a, g a → ∃ r, isoCall (call dp) 66 [.agg [eRows nl ord, .i .i64 N], e a] = some r ∧ RD nl ord (b a) r := H
  have h106 := fun m N t hs => v106 nl m ord N t hs
  simp only [eBu] at h106
  rcases hf with ⟨k0, hr⟩ | ⟨k0, a, l, hargs, hga, hk⟩
  · have e14 := v14 nl ord f.row hn (by unfold Bd; omega)
    have hix := ixOf_mem.2 hr
    have hlt := (ixOf_lt f.row ord).1
    simp only [show OrdOk ord ∧ ord.length ≤ 4096 from ⟨ho, by omega⟩, if_true, show ¬ ixOf f.row ord < 0 by omega, if_false, and_self] at e14
    obtain ⟨i, hi⟩ : ∃ i : Nat, ixOf f.row ord = i := ⟨(ixOf f.row ord).toNat, by omega⟩
    have hvT : eB nl false ord [((i : Int), 0, 1)] 2 = eT nl false ord (varT i) := by simp [eT, varT, post, nds, nd, code, pos]
    rw [hi, hvT] at e14
    simp [s160, eBu, k0, e14, atT, hi]
    exact RD_mk (varT_wf (by omega))
  · obtain ⟨r, c1, hr⟩ := h66 a hga
    rw [atT, if_neg k0, hargs, atK]
    cases hb : b a with
    | none =>
      rw [hb] at hr
      simp only [RD] at hr
      subst hr
      simp [s160, eBu, k0, hargs, c1, agg_zB]
    | some t =>
      rw [hb] at hr
      obtain ⟨wt, m, rfl⟩ := hr
      simp only
      by_cases k2 : f.kind = 2
      · simp [s160, eBu, k2, hargs, c1]
        exact RD_mk wt
      · by_cases k3 : f.kind = 3
        · obtain ⟨m', _, e23⟩ := notT_spec nl m ord t ho h7 wt hn
          simp [s160, eBu, k3, hargs, c1, e23]
          exact RD_mk (Wf_not wt)
        · rcases hk with hk | hk | ⟨c, l', rfl, hgc⟩
          · exact absurd hk k2
          · exact absurd hk k3
          · obtain ⟨r, c2, hr⟩ := h66 c hgc
            rw [if_neg k2, if_neg k3, atL]
            cases hbc : b c with
            | none =>
              rw [hbc] at hr
              simp only [RD] at hr
              subst hr
              simp [s160, eBu, k0, k2, k3, hargs, c1, c2, agg_zB, bldV_z]
            | some s =>
              rw [hbc] at hr
              obtain ⟨ws, m2, rfl⟩ := hr
              obtain ⟨m3, _, e23⟩ := notT_spec nl m2 ord s ho h7 ws hn
              obtain ⟨m4, _, e21⟩ := andT nl m nl m3 ord t (notT s) ho h7 wt (Wf_not ws) hn hn
              have wo := opT_wf ord.length false t (notT s)
              have hsz := small h7 wo
              have e106 := h106 m4 N (opT ord.length false t (notT s)) (by omega)
              simp only
              cases hl : limT N (opT ord.length false t (notT s)) with
              | none =>
                rw [hl] at e106
                simp [s160, eBu, k0, k2, k3, hargs, c1, c2, e23, e21, e106, agg_zB]
              | some u =>
                rw [hl] at e106
                have hu := limT_le hl
                subst hu
                simp [s160, eBu, k0, k2, k3, hargs, c1, c2, e23, e21, e106]
                exact RD_mk wo

theorem v13T (nl : Bool) (ord : List Row) (c : Bool) (ho : OrdOk ord) (h7 : ord.length ≤ 7) (hn : nlOk nl ord) : isoCall (call dp) 13 [eRows nl ord, .b c] = some (eT nl true ord (.leaf c)) := by
  have e := v13 nl ord c hn (by unfold Bd; omega)
  rw [if_pos ⟨ho, by omega⟩] at e
  rw [e]
  cases c <;> rfl

set_option maxHeartbeats 1000000 in
theorem v105 {α : Type} {e : α → D} {g : α → Prop} {b : α → Option T} (he : GE e) (ho : OrdOk ord) (h7 : ord.length ≤ 7) (hn : nlOk nl ord) (H : BuOk nl ord N e g b) (t : Tm α) (ht : gdTm ord g t) :
    ∃ r, isoCall (call dp) 105 [eBu nl ord N, .agg (eTm e t)] = some r ∧ RD nl ord (tmL b ord N (.leaf true) t.fs) r := by
  generalize hR : tmL b ord N (.leaf true) t.fs = R
  apply j105 _ _ (RD nl ord R) (by simp [noRefL, noRef_agTm he]) (fun r h => h.noRef)
  have hstr : strip (eBu nl ord N) = eBu nl ord N := rfl
  rw [hstr, strip_agTm]
  have hfl := ht.1
  simp [s105, eBu, v13T nl ord true ho h7 hn]
  let J : Nat → List D → Store → Prop := fun q fr S => ∃ k acc m z0 z1 z2 b5 b18, fr = mkf 48 [(2, .bx 0 0), (4, .bx 2 0), (5, b5), (6, .bx 3 0), (15, eFcs e t.nl t.fs), (16, .i .i64 t.fs.length), (17, .i .i64 (k : Nat)), (18, b18)] ∧ k + q = t.fs.length ∧ tmL b ord N (.leaf true) t.fs = tmL b ord N acc (t.fs.drop k) ∧ Wf ord.length acc ∧ sget S 0 = some (.box [eRows nl ord, .i .i64 N]) ∧ sget S 2 = some (.box [z0, z1, z2]) ∧ sget S 3 = some (.box (cT nl m ord acc))
  refine W_loop J ?_ t.fs.length _ _ ⟨0, .leaf true, true, _, _, _, _, _, rfl, by simp, by simp, trivial, rfl, rfl, rfl⟩
  intro q fr S hJ; obtain ⟨k, acc, m, z0, z1, z2, b5, b18, hfr, hk, hv, hw, hS0, hS1, hS2⟩ := hJ; rw [hfr]
  rw [hR] at hv
  rw [← wp_W, e105_0]
  simp [s105_0]
  have n0 := sget_lt hS0
  have n1 := sget_lt hS1
  have n2 := sget_lt hS2
  split
  · rename_i h
    obtain ⟨f, hf⟩ := get_lt (l := t.fs) (k := k) (by omega)
    obtain ⟨r, c1, hr⟩ := v160 he ho h7 hn H f (ht.2 f (List.mem_of_getElem? hf))
    simp only [eBu] at c1
    rw [drop_get hf, tmL] at hv
    have m0 : ¬ 0 = S.length := by omega
    have m2 : ¬ 2 = S.length := by omega
    have m3 : ¬ 3 = S.length := by omega
    have m0' : ¬ 0 = S.length + 1 := by omega
    have m2' : ¬ 2 = S.length + 1 := by omega
    have m3' : ¬ 3 = S.length + 1 := by omega
    have q0 : ∀ e1 e2 : Ent, sget (e1 :: e2 :: S) 0 = some (.box [eRows nl ord, .i .i64 N]) := fun e1 e2 => sget_push (sget_push hS0)
    have q2 : ∀ e1 e2 : Ent, sget (e1 :: e2 :: S) 2 = some (.box [z0, z1, z2]) := fun e1 e2 => sget_push (sget_push hS1)
    have q3 : ∀ e1 e2 : Ent, sget (e1 :: e2 :: S) 3 = some (.box (cT nl m ord acc)) := fun e1 e2 => sget_push (sget_push hS2)
    have qt : ∀ e1 e2 : Ent, sget (e1 :: e2 :: S) (S.length + 1) = some e1 := fun e1 e2 => sget_top e1 (e2 :: S)
    cases hat : atT b ord N f with
    | none =>
      rw [hat] at hr hv
      simp only [RD] at hr
      subst hr
      simp only at hv
      subst hv
      simp [-sget_cons, -sset_cons, iaD_eFcs e _ hf, m0, q0, q2, q3, qt, sget_push hS0, c1, bldV_z]
      rw [sget_sset _ (sget_lt (q2 _ _))]
      simp [agg_zB]
    | some x =>
      rw [hat] at hr hv
      obtain ⟨wx, mx, rfl⟩ := hr
      obtain ⟨m4, _, e21⟩ := andT nl m nl mx ord acc x ho h7 hw wx hn hn
      have wo := opT_wf ord.length false acc x
      have hsz := small h7 wo
      have e106 := v106 nl m4 ord N (opT ord.length false acc x) (by omega)
      simp only [eBu] at e106
      simp only at hv
      cases hl : limT N (opT ord.length false acc x) with
      | none =>
        rw [hl] at e106 hv
        simp only at hv e106
        subst hv
        simp [-sget_cons, -sset_cons, iaD_eFcs e _ hf, m0, q0, q2, q3, qt, sget_push hS0, c1, bldV_z, e21, e106]
        have y2 : ∀ (e1 e2 e3 : Ent), sget (sset (e1 :: e2 :: S) 3 e3) 2 = some (.box [z0, z1, z2]) := fun e1 e2 e3 => by rw [sget_sset_ne _ (by omega)]; exact q2 _ _
        simp [-sget_cons, -sset_cons, y2]
        rw [sget_sset _ (sget_lt (y2 _ _ _))]
        simp [agg_zB]
      | some u =>
        have hu := limT_le hl
        subst hu
        rw [hl] at e106 hv
        simp only at hv e106
        simp [-sget_cons, -sset_cons, iaD_eFcs e _ hf, m0, q0, q2, q3, qt, sget_push hS0, c1, bldV_z, e21, e106]
        rw [wrapL (k := k) h hfl]
        exact ⟨q - 1, by omega, ⟨k + 1, _, m4, z0, z1, z2, _, _, rfl, by omega, by rw [hR]; exact hv, wo, by rw [sget_sset_ne _ (by omega)]; exact q0 _ _, by rw [sget_sset_ne _ (by omega)]; exact q2 _ _, sget_sset _ (sget_lt (q3 _ _))⟩⟩
  · rename_i h
    rw [List.drop_eq_nil_of_le (show t.fs.length ≤ k by omega), tmL] at hv
    subst hv
    simp [e105_r0, s105_r0, hS1, hS2]
    rw [sget_sset _ n1]
    exact RD_mk hw

set_option maxHeartbeats 1000000 in
theorem v66s {α : Type} {e : α → D} {g : α → Prop} {b : α → Option T} (he : GE e) (ho : OrdOk ord) (h7 : ord.length ≤ 7) (hn : nlOk nl ord) (H : BuOk nl ord N e g b) : BuOk nl ord N (eAn e) (gdAn ord g) (buAn b ord N) := by
  intro x hx
  generalize hR : buAn b ord N x = R
  apply j66 _ _ (RD nl ord R) (by simp [noRefL, noRef_eAn he]) (fun r h => h.noRef)
  have hstr : strip (eBu nl ord N) = eBu nl ord N := rfl
  rw [hstr, strip_eAn]
  have hxl := hx.1
  simp [s66, eBu, v13T nl ord false ho h7 hn]
  let J : Nat → List D → Store → Prop := fun q fr S => ∃ k acc m z0 z1 z2 b5 b17, fr = mkf 46 [(2, .bx 0 0), (4, .bx 1 0), (5, b5), (6, .bx 2 0), (14, eAn e x), (15, .i .i64 x.ts.length), (16, .i .i64 (k : Nat)), (17, b17)] ∧ k + q = x.ts.length ∧ buAn b ord N x = anL b ord N acc (x.ts.drop k) ∧ Wf ord.length acc ∧ sget S 0 = some (.box [eRows nl ord, .i .i64 N]) ∧ sget S 1 = some (.box [z0, z1, z2]) ∧ sget S 2 = some (.box (cT nl m ord acc))
  refine W_loop J ?_ x.ts.length _ _ ⟨0, .leaf false, true, _, _, _, _, _, rfl, by simp, by simp [buAn], trivial, rfl, rfl, rfl⟩
  intro q fr S hJ; obtain ⟨k, acc, m, z0, z1, z2, b5, b17, hfr, hk, hv, hw, hS0, hS1, hS2⟩ := hJ; rw [hfr]
  rw [hR] at hv
  rw [← wp_W, e66_0]
  simp [s66_0]
  have n0 := sget_lt hS0
  have n1 := sget_lt hS1
  have n2 := sget_lt hS2
  split
  · rename_i h
    obtain ⟨t, ht⟩ := get_lt (l := x.ts) (k := k) (by omega)
    obtain ⟨r, c1, hr⟩ := v105 he ho h7 hn H t (hx.2 t (List.mem_of_getElem? ht))
    simp only [eBu] at c1
    rw [drop_get ht, anL] at hv
    have q0 : ∀ e1 e2 : Ent, sget (e1 :: e2 :: S) 0 = some (.box [eRows nl ord, .i .i64 N]) := fun e1 e2 => sget_push (sget_push hS0)
    have q2 : ∀ e1 e2 : Ent, sget (e1 :: e2 :: S) 1 = some (.box [z0, z1, z2]) := fun e1 e2 => sget_push (sget_push hS1)
    have q3 : ∀ e1 e2 : Ent, sget (e1 :: e2 :: S) 2 = some (.box (cT nl m ord acc)) := fun e1 e2 => sget_push (sget_push hS2)
    have qt : ∀ e1 e2 : Ent, sget (e1 :: e2 :: S) (S.length + 1) = some e1 := fun e1 e2 => sget_top e1 (e2 :: S)
    cases hat : tmL b ord N (.leaf true) t.fs with
    | none =>
      rw [hat] at hr hv
      simp only [RD] at hr
      subst hr
      simp only at hv
      subst hv
      simp [-sget_cons, -sset_cons, iaD_eAn e _ ht, q0, q2, q3, qt, sget_push hS0, c1, bldV_z]
      rw [sget_sset _ (sget_lt (q2 _ _))]
      simp [agg_zB]
    | some y =>
      rw [hat] at hr hv
      obtain ⟨wx, mx, rfl⟩ := hr
      obtain ⟨m4, _, e22⟩ := orT nl m nl mx ord acc y ho h7 hw wx hn hn
      have wo := opT_wf ord.length true acc y
      have hsz := small h7 wo
      have e106 := v106 nl m4 ord N (opT ord.length true acc y) (by omega)
      simp only [eBu] at e106
      simp only at hv
      cases hl : limT N (opT ord.length true acc y) with
      | none =>
        rw [hl] at e106 hv
        simp only at hv e106
        subst hv
        simp [-sget_cons, -sset_cons, iaD_eAn e _ ht, q0, q2, q3, qt, sget_push hS0, c1, bldV_z, e22, e106]
        have y2 : ∀ (e1 e2 e3 : Ent), sget (sset (e1 :: e2 :: S) 2 e3) 1 = some (.box [z0, z1, z2]) := fun e1 e2 e3 => by rw [sget_sset_ne _ (by omega)]; exact q2 _ _
        simp [-sget_cons, -sset_cons, y2]
        rw [sget_sset _ (sget_lt (y2 _ _ _))]
        simp [agg_zB]
      | some u =>
        have hu := limT_le hl
        subst hu
        rw [hl] at e106 hv
        simp only at hv e106
        simp [-sget_cons, -sset_cons, iaD_eAn e _ ht, q0, q2, q3, qt, sget_push hS0, c1, bldV_z, e22, e106]
        rw [wrapL (k := k) h hxl]
        exact ⟨q - 1, by omega, ⟨k + 1, _, m4, z0, z1, z2, _, _, rfl, by omega, by rw [hR]; exact hv, wo, by rw [sget_sset_ne _ (by omega)]; exact q0 _ _, by rw [sget_sset_ne _ (by omega)]; exact q2 _ _, sget_sset _ (sget_lt (q3 _ _))⟩⟩
  · rename_i h
    rw [List.drop_eq_nil_of_le (show x.ts.length ≤ k by omega), anL] at hv
    subst hv
    simp [e66_r0, s66_r0, hS1, hS2]
    rw [sget_sset _ n1]
    exact RD_mk hw

theorem v66 (ho : OrdOk ord) (h7 : ord.length ≤ 7) (hn : nlOk nl ord) : ∀ n, BuOk nl ord N (eAnn n) (gdAnn ord n) (buAnn ord N n)
  | 0 => fun x => nomatch x
  | n + 1 => v66s (GE_eAnn n) ho h7 hn (v66 ho h7 hn n)

end Go.Proofs.YtjlmeikcfdanmaaGreatDoor.DE.V

namespace Go.Proofs.YtjlmeikcfdanmaaGreatDoor.DE.V
open Go BT
set_option linter.unusedSimpArgs false
set_option linter.unusedVariables false

section
variable {α : Type} {P : Prm α} {ord : List Row} {ok g : α → Prop} {T : α → Bool} {v : α → List Row}

theorem vFs_all : ∀ {l : List (Fc α)} {p : Option (Fc α)}, vFs P p l = true → ∀ f, f ∈ l → vAt P f = true
  | [], _, _, f, hf => by cases hf
  | x :: l, p, h, f, hf => by
    rw [vFs_cons] at h
    simp only [Bool.and_eq_true] at h
    rcases List.mem_cons.1 hf with e | e
    · subst e; exact h.1.2
    · exact vFs_all h.2 f e
theorem vTs_all : ∀ {l : List (Tm α)} {p : Option (Tm α)}, vTs P p l = true → ∀ t, t ∈ l → vFs P none t.fs = true
  | [], _, _, f, hf => by cases hf
  | x :: l, p, h, f, hf => by
    rw [vTs_cons] at h
    simp only [Bool.and_eq_true] at h
    rcases List.mem_cons.1 hf with e | e
    · subst e; exact h.1.2
    · exact vTs_all h.2 f e

theorem gd_fc (hV : ∀ a, ok a → P.V a = true → T a = false → (∀ r, r ∈ v a → r ∈ ord) → g a) {f : Fc α} (hof : OkFc ok f) (h : vAt P f = true) (ht : teFc T f = false) (hv : ∀ r, r ∈ vaFc v f → r ∈ ord) : gdFc ord g f := by
  simp only [teFc, Bool.or_eq_false_iff, decide_eq_false_iff_not] at ht
  obtain ⟨k4, hT⟩ := ht
  unfold vAt at h
  split at h
  · cases h
  · split at h
    · cases h
    · split at h
      · cases h
      · rename_i hA
        have hargs : ∀ a, a ∈ f.args → g a := by
          intro a ha
          have hA : f.args.any (fun a => !P.V a || P.em a) = false := by simpa using hA
          have h1 := List.any_eq_false.1 hA a ha
          have h2 := List.any_eq_false.1 hT a ha
          simp only [Bool.or_eq_true, Bool.not_eq_true', not_or, Bool.not_eq_true] at h1
          refine hV a (hof.args a ha) (by simpa using h1.1) (by simpa using h2) fun r hr => hv r ?_
          simp only [vaFc, List.mem_append, List.mem_flatMap]
          exact .inr (.inl ⟨a, ha, hr⟩)
        split at h
        · rename_i k0
          exact .inl ⟨k0, hv _ (by simp [vaFc, k0])⟩
        · rename_i k0
          right
          refine ⟨k0, ?_⟩
          split at h
          · match hl : f.args with
            | [] => rw [hl] at h; simp [mon2] at h
            | [a] => rw [hl] at h; simp [mon2] at h
            | a :: b :: l => exact ⟨a, b :: l, rfl, hargs a (by simp [hl]), .inr (.inr ⟨b, l, rfl, hargs b (by simp [hl])⟩)⟩
          · split at h
            · rename_i k2
              match hl : f.args with
              | [] => rw [hl] at h; simp [del1] at h
              | a :: l => exact ⟨a, l, rfl, hargs a (by simp [hl]), .inl k2⟩
            · split at h
              · rename_i k3
                match hl : f.args with
                | [] => rw [hl] at h; simp [abs1] at h
                | a :: l => exact ⟨a, l, rfl, hargs a (by simp [hl]), .inr (.inl k3)⟩
              · first
                | (split at h
                   · rename_i k4'; exact absurd k4' k4
                   · cases h)
                | cases h

theorem gd_an {e : α → D} (hV : ∀ a, ok a → P.V a = true → T a = false → (∀ r, r ∈ v a → r ∈ ord) → g a) {x : An α} (hx : OkAn ok x) (h : vAn P e x = true) (ht : teAn T x = false) (hv : ∀ r, r ∈ vaAn v x → r ∈ ord) : gdAn ord g x := by
  simp only [vAn, Bool.and_eq_true] at h
  refine ⟨hx.len, fun t htm => ⟨(hx.ts t htm).len, fun f hf => ?_⟩⟩
  have h1 := vTs_all h.2 t htm
  have h2 := List.any_eq_false.1 ht t htm
  have h3 : teTm T t = false := by simpa using h2
  have h4 : t.fs.any (teFc T) = false := h3
  have h5 := List.any_eq_false.1 h4 f hf
  refine gd_fc hV ((hx.ts t htm).fs f hf) (vFs_all h1 f hf) (by simpa using h5) fun r hr => hv r ?_
  simp only [vaAn, vaTm, List.mem_flatMap]
  exact ⟨t, htm, f, hf, hr⟩
end

theorem gd_ann {ord : List Row} : ∀ n (x : Ann n), OkAnn n x → validAnn n x = true → teAnn n x = false → (∀ r, r ∈ vaAnn n x → r ∈ ord) → gdAnn ord n x
  | 0, x => nomatch x
  | n + 1, x => fun hx h ht hv => gd_an (P := prm n) (gd_ann n) hx h ht hv

/-! What is valid is short. -/
section
variable {α : Type} {P : Prm α} {sm : α → Prop}
theorem vlOk_len {v : Vl} (h : vlOk v = true) : v.text.length ≤ 1048576 := by
  unfold vlOk at h
  split at h
  · have : v.text = [] := by simpa using h
    simp [this]
  · split at h
    · have := of_decide_eq_true h; omega
    · split at h
      · simp at h; simp [h.2]
      · cases h
theorem vlZ_len {v : Vl} (h : vlZ v = true) : v.text.length ≤ 1048576 := by
  simp [vlZ] at h; simp [h.2.2]
theorem sm_fc (hV : ∀ a, P.V a = true → sm a) {f : Fc α} (h : vAt P f = true) (hi : f.items.length ≤ 1024) : SmFc sm f := by
  unfold vAt at h
  split at h
  · cases h
  · rename_i hp
    split at h
    · cases h
    · split at h
      · cases h
      · rename_i hA
        have hA : f.args.any (fun a => !P.V a || P.em a) = false := by simpa using hA
        have hargs : ∀ a, a ∈ f.args → sm a := by
          intro a ha
          have h1 := List.any_eq_false.1 hA a ha
          simp only [Bool.or_eq_true, Bool.not_eq_true', not_or, Bool.not_eq_true] at h1
          exact hV a (by simpa using h1.1)
        have rest : f.kind ≠ 4 → f.args.length ≤ 1048576 → SmFc sm f := by
          intro k4 hl
          have hp0 : plain0 f = true := by
            cases hq : plain0 f with
            | true => rfl
            | false => exact absurd ⟨k4, hq⟩ hp
          simp only [plain0, Bool.and_eq_true, decide_eq_true_eq] at hp0
          have hit : f.items = [] := List.length_eq_zero_iff.1 hp0.1.1.2
          exact ⟨hl, hargs, by simp [hit], fun p hp => (by rw [hit] at hp; cases hp), vlZ_len hp0.2⟩
        split at h
        · rename_i k0
          simp at h
          exact rest (by omega) (by simp [h.2])
        · split at h
          · rename_i k1
            refine rest (by omega) ?_
            match hl : f.args with
            | [] => simp
            | [a] => simp
            | [a, b] => simp
            | a :: b :: c :: l => rw [hl] at h; simp [mon2] at h
          · split at h
            · rename_i k2
              refine rest (by omega) ?_
              match hl : f.args with
              | [] => simp
              | [a] => simp
              | a :: b :: l => rw [hl] at h; simp [del1] at h
            · split at h
              · rename_i k3
                refine rest (by omega) ?_
                match hl : f.args with
                | [] => simp
                | [a] => simp
                | a :: b :: l => rw [hl] at h; simp [abs1] at h
              · split at h
                · simp only [Bool.and_eq_true, decide_eq_true_eq, Bool.not_eq_true', fitg] at h
                  obtain ⟨⟨⟨⟨h1, _⟩, h2⟩, _⟩, ⟨⟨_, h3⟩, _⟩, h4⟩ := h
                  refine ⟨by omega, hargs, by omega, fun p hp => ⟨?_, ?_⟩, vlOk_len h3⟩
                  · have := List.any_eq_false.1 h4 p hp
                    simp only [badV, Bool.or_eq_true, not_or, Bool.not_eq_true, Bool.not_eq_true'] at this
                    exact vlOk_len (by simpa using this.1.1)
                  · have := List.any_eq_false.1 h2 p hp
                    simp only [Bool.or_eq_true, not_or, Bool.not_eq_true, Bool.not_eq_true'] at this
                    exact hV p.2 (by simpa using this.1)
                · cases h
theorem sm_an {e : α → D} (hV : ∀ a, P.V a = true → sm a) {x : An α} (h : vAn P e x = true) : SmAn sm x := by
  simp only [vAn, fitAn, Bool.and_eq_true, decide_eq_true_eq] at h
  obtain ⟨⟨⟨⟨h1, _⟩, _⟩, h2⟩, h3⟩ := h
  refine ⟨by omega, fun t ht => ?_⟩
  have h4 := List.all_eq_true.1 h2 t ht
  simp only [fiTm, Bool.and_eq_true, decide_eq_true_eq] at h4
  refine ⟨by omega, fun f hf => sm_fc hV (vFs_all (vTs_all h3 t ht) f hf) ?_⟩
  have h5 := List.all_eq_true.1 h4.2 f hf
  simp only [fiFc, Bool.and_eq_true, decide_eq_true_eq] at h5
  exact h5.2
end
theorem sm_ann : ∀ n (x : Ann n), validAnn n x = true → SmAnn n x
  | 0, x => nomatch x
  | n + 1, x => fun h => sm_an (P := prm n) (sm_ann n) h
theorem smS_valid {x : SA} (h : validS x = true) : smS x := sm_ann x.1 x.2 h

/-! Build. -/
noncomputable def buS (ord : List Row) (N : Int) (x : SA) : Option T := buAnn ord N x.1 x.2
def teS (x : SA) : Bool := teAnn x.1 x.2
def vaS (x : SA) : List Row := vaAnn x.1 x.2

def BD (nl : Bool) (ord : List Row) (N : Int) (x : SA) (r : D) : Prop :=
  (¬ (OrdOk ord ∧ validS x = true ∧ 0 ≤ N) ∧ r = .tup [zB, .i .i64 1]) ∨
  ((OrdOk ord ∧ validS x = true ∧ 0 ≤ N) ∧ teS x = true ∧ r = .tup [zB, .i .i64 13]) ∨
  ((OrdOk ord ∧ validS x = true ∧ 0 ≤ N) ∧ teS x = false ∧ (∃ w, w ∈ vaS x ∧ w ∉ ord) ∧ r = .tup [zB, .i .i64 4]) ∨
  ((OrdOk ord ∧ validS x = true ∧ 0 ≤ N) ∧ teS x = false ∧ (∀ w, w ∈ vaS x → w ∈ ord) ∧ RD nl ord (buS ord N x) r)

theorem BD.noRef {nl : Bool} {ord : List Row} {N : Int} {x : SA} {r : D} (h : BD nl ord N x r) : noRef r = true := by
  rcases h with ⟨_, rfl⟩ | ⟨_, _, rfl⟩ | ⟨_, _, _, rfl⟩ | ⟨_, _, _, h⟩
  · simp [DE.noRef, noRefL]
  · simp [DE.noRef, noRefL]
  · simp [DE.noRef, noRefL]
  · exact h.noRef

theorem v31 (x : SA) (hx : okS x) (hw : smS x → wS x ≤ 40) (nl : Bool) (ord : List Row) (hn : nlOk nl ord) (h7 : ord.length ≤ 7) (N : Int) :
    ∃ r, isoCall (call dp) 31 [eRows nl ord, eS x, .i .i64 N] = some r ∧ BD nl ord N x r := by
  have e48 := v48 nl ord (by unfold Bd; omega)
  have e60 := v60S x hx
  have e61 : isoCall (call dp) 61 [eS x] = some (.b (teS x)) := v61 x.1 x.2 hx
  apply j31 _ _ _ (BD nl ord N x) (by simp [noRefL, GE_eS.noRef, GE_eS.strip]) (fun r h => h.noRef)
  have hstr : strip (eS x) = eS x := GE_eS.strip x
  rw [hstr]
  simp only [strip_eRows, strip_i]
  by_cases ho : OrdOk ord
  case neg =>
    have hno : ¬ (OrdOk ord ∧ ord.length ≤ 4096) := fun h => ho h.1
    simp only [hno, decide_false] at e48
    simp [s31, e48, bldV_z, agg_zB]
    exact .inl ⟨fun h => ho h.1, rfl⟩
  have hyes : OrdOk ord ∧ ord.length ≤ 4096 := ⟨ho, by omega⟩
  simp only [hyes, and_self, decide_true] at e48
  by_cases hval : validS x = true
  case neg =>
    have hval' : validS x = false := by simpa using hval
    rw [hval'] at e60
    simp [s31, e48, e60, bldV_z, agg_zB]
    exact .inl ⟨fun h => hval h.2.1, rfl⟩
  rw [hval] at e60
  obtain ⟨s, nl', e63, hs, hsl⟩ := v63 x hx (hw (smS_valid hval))
  by_cases hN : N < 0
  · simp [s31, e48, e60, hN, bldV_z, agg_zB]
    exact .inl ⟨fun h => by omega, rfl⟩
  have hN' : 0 ≤ N := by omega
  cases hte : teS x with
  | true =>
    rw [hte] at e61
    simp [s31, e48, e60, hN, e61, bldV_z, agg_zB]
    exact .inr (.inl ⟨⟨ho, hval, hN'⟩, hte, rfl⟩)
  | false =>
    rw [hte] at e61
    obtain ⟨S', c62, hp⟩ := v62 nl' s (by unfold Bd; omega) (ib := 0) (nl' := nl) (ord := ord) (S0 := [Ent.box [.sl 2 true [] .ro, .sl 3 true [] .ro, .i .i64 0], Ent.box [eRows nl ord]]) (by unfold Bd; omega) rfl
    have p0 := hp 0 _ (show sget [Ent.box [.sl 2 true [] .ro, .sl 3 true [] .ro, .i .i64 0], Ent.box [eRows nl ord]] 0 = some (.box [eRows nl ord]) from rfl)
    have p1 := hp 1 _ (show sget [Ent.box [.sl 2 true [] .ro, .sl 3 true [] .ro, .i .i64 0], Ent.box [eRows nl ord]] 1 = some (.box [.sl 2 true [] .ro, .sl 3 true [] .ro, .i .i64 0]) from rfl)
    cases hany : s.any fun r => !decide (r ∈ ord) with
    | true =>
      rw [hany] at c62
      obtain ⟨r, hr1, hr2⟩ := List.any_eq_true.1 hany
      simp [s31, e48, e60, hN, e61, e63, c62, bldV_z, p1]
      rw [sget_sset _ (sget_lt p1)]
      simp [agg_zB]
      exact .inr (.inr (.inl ⟨⟨ho, hval, hN'⟩, hte, ⟨r, (hs r).1 hr1, by simpa using hr2⟩, rfl⟩))
    | false =>
      rw [hany] at c62
      have hall : ∀ w, w ∈ vaS x → w ∈ ord := by
        intro w hw'
        have := List.any_eq_false.1 hany w ((hs w).2 hw')
        simpa using this
      obtain ⟨r, c66, hr⟩ := v66 (N := N) ho h7 hn x.1 x.2 (gd_ann x.1 x.2 hx hval hte hall)
      have c66 : isoCall (call dp) 66 [.agg [eRows nl ord, .i .i64 N], eS x] = some r := c66
      have hbl : bldV [.sl 2 true [] .ro, .i .i64 0] [(0, 1, false, eRows nl ord), (1, 1, false, .i .i64 N)] = some [eRows nl ord, .i .i64 N] := by simp [bldV]
      have fin : ∀ d, RD nl ord (buS ord N x) d → BD nl ord N x d := fun d h => .inr (.inr (.inr ⟨⟨ho, hval, hN'⟩, hte, hall, h⟩))
      simp [-OX_b, s31, e48, e60, hN, e61, e63, c62, p0, p1, hbl, c66]
      have hbu : buAnn ord N x.1 x.2 = buS ord N x := rfl
      rw [hbu] at hr
      cases hb : buS ord N x with
      | none =>
        rw [hb] at hr fin
        simp only [RD] at hr
        subst hr
        simp [p1]
        rw [sget_sset _ (sget_lt p1)]
        simp [agg_zB]
        exact fin _ (by simp)
      | some t =>
        rw [hb] at hr fin
        obtain ⟨wt, m, rfl⟩ := hr
        simp [p1]
        rw [sget_sset _ (sget_lt p1)]
        simp
        exact fin _ (RD_mk wt)

end Go.Proofs.YtjlmeikcfdanmaaGreatDoor.DE.V

namespace Go.Proofs.YtjlmeikcfdanmaaGreatDoor.DE
open Go

def awk (n : Nat) : Bool := match callN dp n 10 [] [] with
  | some (.b true, _) => true
  | _ => false

theorem awk_ok : awk 60 = true := by kernel_rfl

theorem v10 : isoCall (call dp) 10 [] = some (.b true) := by
  have h : ∃ S, callN dp 60 10 [] [] = some (.b true, S) := by
    have := awk_ok
    unfold awk at this
    split at this
    · rename_i S h; exact ⟨S, h⟩
    · cases this
  obtain ⟨S, h⟩ := h
  have := (call_iff 10 [] [] _).2 ⟨60, h⟩
  simp only [isoCall, stripL, noRefL, if_true, this]
  rfl

end Go.Proofs.YtjlmeikcfdanmaaGreatDoor.DE

namespace Go.Proofs.YtjlmeikcfdanmaaGreatDoor.DE.V
open Go BT

end Go.Proofs.YtjlmeikcfdanmaaGreatDoor.DE.V

namespace Go.Proofs.YtjlmeikcfdanmaaGreatDoor.DE.V
open Go BT
set_option maxRecDepth 20000

open Classical in
theorem eqT (na na' nb nb' : Bool) (o : List Row) (t s : T) (ho : OrdOk o) (h7 : o.length ≤ 7) (wt : Wf o.length t) (ws : Wf o.length s) (hn : nlOk na o) :
    isoCall (call dp) 34 [eT na na' o t, eT nb nb' o s] = some (.b (decide (t = s))) := by
  have z1 := small h7 wt
  have z2 := small h7 ws
  have e := v34 na na' nb nb' o o (nds (post t [])) (nds (post s [])) (code (post t []) t) (code (post s []) s) hn (by rw [nds_len]; unfold Bd; omega) (by unfold Bd; omega) (by rw [nds_len]; unfold Bd; omega) (by unfold Bd; omega)
  refine e.trans ?_
  congr 2
  rw [decide_eq_decide]
  constructor
  · rintro ⟨_, h1, _, h2⟩
    have := nds_inj (post_nil t).1 (post_nil s).1 h2
    rw [← this] at h1
    exact code_inj (post_nil t).2.1 (this ▸ (post_nil s).2.1) h1
  · rintro rfl
    exact ⟨VB_VT.2 ⟨t, VT_eT ho h7 wt⟩, rfl, rfl, rfl⟩

end Go.Proofs.YtjlmeikcfdanmaaGreatDoor.DE.V

namespace Go.Proofs.YtjlmeikcfdanmaaGreatDoor.DE.V
open Go BT
set_option linter.unusedSimpArgs false
set_option linter.unusedVariables false
set_option maxRecDepth 20000

theorem same_fn {n : Nat} {t s : T} (wt : Wf n t) (ws : Wf n s) : t = s ↔ ∀ i, i < 2 ^ n → fn t (bitsA i) = fn s (bitsA i) := by
  constructor
  · rintro rfl _ _; rfl
  · intro h
    refine canon' wt ws fun a => ?_
    obtain ⟨x, hx, he⟩ := enc a n
    have e1 : fn t a = fn t (bitsA x) := fn_agree wt fun i _ hi => (he i hi).symm
    have e2 : fn s a = fn s (bitsA x) := fn_agree ws fun i _ hi => (he i hi).symm
    rw [e1, e2, h x hx]

theorem asg_bits {o rs : List Row} {k : Nat} (ho : OrdOk o) (hrs : ∀ r, r ∈ rs ↔ ∃ j, j < o.length ∧ k.testBit j = true ∧ o[j]? = some r) {i : Nat} (hi : i < o.length) : asg o rs i = bitsA k i := by
  obtain ⟨r, hr⟩ := get_lt hi
  rw [asg_get hr]
  unfold bitsA
  cases hb : k.testBit i with
  | true => exact decide_eq_true ((hrs r).2 ⟨i, hi, hb, hr⟩)
  | false =>
    refine decide_eq_false fun hm => ?_
    obtain ⟨j, hj, hjb, hjr⟩ := (hrs r).1 hm
    have : i = j := (List.getElem?_inj hi ho.2).1 (hr.trans hjr.symm)
    subst this
    rw [hb] at hjb; cases hjb

set_option maxHeartbeats 1000000 in
open Classical in
theorem law7 (n : Bool) (o : List Row) (x y : SA) (g : n = true → o = []) (_ : ∀ a ∈ o, okRow a) (kx : okS x) (ky : okS y) :
    ∃ S', call dp 7 [eRows n o, eS x, eS y] [] = some (.b true, S') := by
  obtain ⟨r, S', e, rfl⟩ := f7 (eRows n o) (eS x) (eS y) [] (fun d _ => d = .b true) (by
    have hcv : cellsV 1 false [eS x, eS y] = some [[eS x], [eS y]] := by simp [cellsV, cellsK, GE_eS.cell]
    have harg : D.sl 1 false [[eS x], [eS y]] .ro = eArgs eS false [x, y] := rfl
    obtain ⟨d, e30, c, rfl, hw⟩ := v30 [x, y] (by simp [Bd]) (by intro p hp; rcases List.mem_cons.1 hp with h | h; exact h ▸ kx; rw [List.mem_singleton.1 h]; exact ky)
    by_cases b1 : o.length ≤ 7
    case neg => simp [s7, v10, v12, b1]
    cases c with
    | false => simp [s7, v10, v12, b1, hcv, harg, e30]
    | true =>
      have wx := hw rfl x (by simp)
      have wy := hw rfl y (by simp)
      obtain ⟨r1, e1, h1⟩ := v31 x kx wx n o g b1 4096
      obtain ⟨r2, e2, h2⟩ := v31 y ky wy n o g b1 4096
      have bad1 : ∀ k : Int, ¬ k = 0 → r1 = .tup [zB, .i .i64 k] → s7 (call dp) (eRows n o) (eS x) (eS y) [] (fun d _ => d = .b true) := by
        intro k hk hr
        subst hr
        have e2' : ∃ u v, r2 = .tup [u, v] ∧ cellsK 3 true u ≠ none := by
          rcases h2 with ⟨_, rfl⟩ | ⟨_, _, rfl⟩ | ⟨_, _, _, rfl⟩ | ⟨_, _, _, h2⟩
          · exact ⟨_, _, rfl, by simp⟩
          · exact ⟨_, _, rfl, by simp⟩
          · exact ⟨_, _, rfl, by simp⟩
          · cases hb : buS o 4096 y with
            | none => rw [hb] at h2; simp only [RD] at h2; subst h2; exact ⟨_, _, rfl, by simp⟩
            | some t => rw [hb] at h2; obtain ⟨_, m, rfl⟩ := h2; exact ⟨_, _, rfl, by simp⟩
        obtain ⟨u, v, rfl, hu⟩ := e2'
        obtain ⟨cu, hcu⟩ : ∃ cu, cellsK 3 true u = some cu := by
          cases hq : cellsK 3 true u with
          | none => exact absurd hq hu
          | some cu => exact ⟨cu, rfl⟩
        simp [s7, v10, v12, b1, hcv, harg, e30, e1, e2, hcu, hk]
      rcases h1 with ⟨_, h1⟩ | ⟨_, _, h1⟩ | ⟨_, _, _, h1⟩ | ⟨hok, _, _, h1⟩
      · exact bad1 1 (by omega) h1
      · exact bad1 13 (by omega) h1
      · exact bad1 4 (by omega) h1
      cases hb1 : buS o 4096 x with
      | none => rw [hb1] at h1; exact bad1 6 (by omega) h1
      | some t =>
        rw [hb1] at h1
        obtain ⟨wt, m1, rfl⟩ := h1
        have bad2 : ∀ k : Int, ¬ k = 0 → r2 = .tup [zB, .i .i64 k] → s7 (call dp) (eRows n o) (eS x) (eS y) [] (fun d _ => d = .b true) := by
          intro k hk hr
          subst hr
          simp [s7, v10, v12, b1, hcv, harg, e30, e1, e2, hk]
        rcases h2 with ⟨_, h2⟩ | ⟨_, _, h2⟩ | ⟨_, _, _, h2⟩ | ⟨_, _, _, h2⟩
        · exact bad2 1 (by omega) h2
        · exact bad2 13 (by omega) h2
        · exact bad2 4 (by omega) h2
        cases hb2 : buS o 4096 y with
        | none => rw [hb2] at h2; exact bad2 6 (by omega) h2
        | some s =>
          rw [hb2] at h2
          obtain ⟨ws, m2, rfl⟩ := h2
          have ho := hok.1
          have hpow := pow7 b1
          have hsh := shl1 (n := o.length) (by omega)
          simp [s7, v10, v12, b1, hcv, harg, e30, e1, e2]
          let J : Nat → List D → Store → Prop := fun q fr S => ∃ k c b6 b13 b53 b57 b58 b59 b60, fr = mkf 89 [(0, eRows n o), (6, b6), (7, .bx 0 0), (9, .bx 1 0), (11, .b c), (12, .i .i64 (k : Nat)), (13, b13), (53, b53), (57, b57), (58, b58), (59, b59), (60, b60)] ∧ k + q = 2 ^ o.length ∧ (c = true ↔ ∀ i, i < k → fn t (bitsA i) = fn s (bitsA i)) ∧ sget S 0 = some (.box (cT n m1 o t)) ∧ sget S 1 = some (.box (cT n m2 o s))
          refine W_loop J ?_ (2 ^ o.length) _ _ ⟨0, true, _, _, _, _, _, _, _, rfl, by simp, by simp, rfl, rfl⟩
          intro q fr S hJ; obtain ⟨k, c, b6, b13, b53, b57, b58, b59, b60, hfr, hk, hc, hS0, hS1⟩ := hJ; rw [hfr]
          rw [← wp_W, e7_1]
          simp only [s7_1, lenD_rows', OX_some, hsh, bin_lss]
          by_cases h : k < 2 ^ o.length
          · have h' : (k : Int) < ((2 ^ o.length : Nat) : Int) := by omega
            simp only [h', decide_true, WB_true, OX_some, OX_b, if_true, cellsV_nil, bslO_nil]
            let J2 : Nat → List D → Store → Prop := fun q fr S => ∃ i rs mm ow b6 b53 b60, fr = mkf 89 [(0, eRows n o), (6, b6), (7, .bx 0 0), (9, .bx 1 0), (11, .b c), (12, .i .i64 (k : Nat)), (13, .sl 2 mm (List.map eRow rs) ow), (53, b53), (57, eRows n o), (58, .i .i64 o.length), (59, .i .i64 (i : Nat)), (60, b60)] ∧ i + q = o.length ∧ LivC S mm (List.length rs) ow ∧ List.length rs ≤ i ∧ (∀ r, r ∈ rs ↔ ∃ j, j < i ∧ k.testBit j = true ∧ o[j]? = some r) ∧ sget S 0 = some (.box (cT n m1 o t)) ∧ sget S 1 = some (.box (cT n m2 o s))
            refine W_loop J2 ?_ o.length _ _ ⟨0, [], false, .cap0, _, _, _, rfl, by simp, .inr ⟨rfl, rfl, rfl⟩, by simp, by simp, hS0, hS1⟩
            intro q2 fr S hJ; obtain ⟨i, rs, mm, ow, b6, b53, b60, hfr, hi, hl, hrl, hrs, hT0, hT1⟩ := hJ; rw [hfr]
            rw [← wp_W, e7_0]
            simp [s7_0]
            split
            · rename_i hil
              obtain ⟨r, hr⟩ := get_lt (l := o) (k := i) (by omega)
              have hrem := remN (a := k / 2 ^ i) (b := 2) (by omega)
              rw [show ((2 : Nat) : Int) = 2 from rfl] at hrem
              have hbit : decide (((k / 2 ^ i % 2 : Nat) : Int) = 1) = k.testBit i := by
                rw [Nat.testBit_eq_decide_div_mod_eq, decide_eq_decide]
                omega
              have w1 : IntKind.i64.wrap ((i : Int) + 1) = ((i + 1 : Nat) : Int) := wrapS (k := i) (by unfold Bd; omega)
              simp only [iaD_rows _ hr, OX_some, ldD_el_row, rdK_row, stD_bx, ldD_el, sget_top, stE_box', cellsK_row, Option.bind_some, row_len, List.length_cons, List.length_nil, Nat.zero_add, Nat.le_refl, if_true, splice_row, sset_top, shrN (a := k) (v := i) (by omega), hrem, bin_eql, hbit]
              cases hb : k.testBit i with
              | true =>
                obtain ⟨tk, S', q1, q2', q3⟩ := app_livC (k := 2) (n' := false) (xs := rs.map eRow) (ys := [eRow r]) (o' := .ro) (S := Ent.box (eRow r) :: S) (by simpa using hl.push _) (by simp [maxLenD]; omega) (by simp)
                simp [jn_eq, q1, w1]
                rw [show List.map eRow rs ++ [eRow r] = List.map eRow (rs ++ [r]) by simp]
                refine ⟨q2 - 1, by omega, ⟨i + 1, rs ++ [r], false, .tok tk, _, _, _, rfl, by omega, ?_, by simp; omega, ?_, q3 _ _ (sget_push hT0), q3 _ _ (sget_push hT1)⟩⟩
                · exact LivC.tok q2'
                · intro r'
                  rw [List.mem_append, hrs, List.mem_singleton]
                  constructor
                  · rintro (⟨j, a, b, c⟩ | rfl)
                    · exact ⟨j, by omega, b, c⟩
                    · exact ⟨i, by omega, hb, hr⟩
                  · rintro ⟨j, a, b, c⟩
                    by_cases hji : j = i
                    · subst hji; rw [hr] at c; injection c with c; exact .inr c.symm
                    · exact .inl ⟨j, by omega, b, c⟩
              | false =>
                simp [jn_eq, w1]
                refine ⟨q2 - 1, by omega, ⟨i + 1, rs, mm, ow, _, _, _, rfl, by omega, hl.push _, by omega, ?_, sget_push hT0, sget_push hT1⟩⟩
                intro r'
                rw [hrs]
                constructor
                · rintro ⟨j, a, b, c⟩; exact ⟨j, by omega, b, c⟩
                · rintro ⟨j, a, b, c⟩
                  by_cases hji : j = i
                  · subst hji; rw [hb] at b; cases b
                  · exact ⟨j, by omega, b, c⟩
            · rename_i hil
              have hie : i = o.length := by omega
              subst hie
              have hag : ∀ j, j < o.length → asg o rs j = bitsA k j := fun j hj => asg_bits ho hrs hj
              have e37 : ∀ (m : Bool) (u : T), Wf o.length u → isoCall (call dp) 37 [eT n m o u, .sl 2 mm (rs.map eRow) ow] = some (.b (fn u (bitsA k))) := by
                intro m u wu
                have := v37 n m mm o rs u g b1 ho wu (by unfold Bd; omega)
                rw [fn_agree wu fun j _ hj => hag j hj] at this
                rw [isoCall_strip] at this ⊢
                exact this
              have w1 : IntKind.i64.wrap ((k : Int) + 1) = ((k + 1 : Nat) : Int) := wrapS (k := k) (by unfold Bd; omega)
              cases c with
              | false =>
                simp [e7_r0, s7_r0, e7_r1, s7_r1, w1]
                refine ⟨q - 1, by omega, ⟨k + 1, false, _, _, _, _, _, _, _, rfl, by omega, ?_, hT0, hT1⟩⟩
                simp only [Bool.false_eq_true, false_iff] at hc ⊢
                exact fun h => hc fun i hi => h i (by omega)
              | true =>
                simp [-OX_b, e7_r0, s7_r0, hT0, hT1, e37 _ _ wt, e37 _ _ ws, e7_r1, s7_r1, w1]
                refine ⟨q - 1, by omega, ⟨k + 1, _, _, _, _, _, _, _, _, rfl, by omega, ?_, hT0, hT1⟩⟩
                simp only [true_iff] at hc
                constructor
                · intro h i hi
                  by_cases hik : i = k
                  · subst hik; simpa using h
                  · exact hc i (by omega)
                · intro h
                  simpa using h k (by omega)
          · have h' : ¬ (k : Int) < ((2 ^ o.length : Nat) : Int) := by omega
            have hke : k = 2 ^ o.length := by omega
            subst hke
            have e34 := eqT n m1 n m2 o t s ho b1 wt ws g
            have hcc : c = decide (t = s) := by
              rw [Bool.eq_iff_iff, hc, decide_eq_true_iff, same_fn wt ws]
            simp only [h', decide_false, WB_false, OX_b, if_false, Bool.false_eq_true]
            simp [-OX_b, e7_r2, s7_r2, hS0, hS1, e34, hcc])
  exact ⟨S', e⟩

end Go.Proofs.YtjlmeikcfdanmaaGreatDoor.DE.V
