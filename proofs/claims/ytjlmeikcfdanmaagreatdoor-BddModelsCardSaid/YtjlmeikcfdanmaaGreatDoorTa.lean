/-
  REDUCED ORDERED TREES AND THEIR LISTS OF NODES. Plain Lean; nothing of the program stands here.
-/
import GoSem.Dispatch
namespace Go.Proofs.YtjlmeikcfdanmaaGreatDoor.BT

/-- A decision tree. -/
inductive T where
  | leaf (b : Bool)
  | node (v : Nat) (l h : T)

abbrev Nd := Int × Int × Int

noncomputable instance : DecidableEq T := fun _ _ => Classical.propDecidable _

def T.size : T → Nat
  | .leaf _ => 0
  | .node _ l h => l.size + h.size + 1

noncomputable def pos : List T → T → Nat
  | [], _ => 0
  | x :: l, t => if x = t then 0 else pos l t + 1

theorem pos_lt {t : T} : ∀ {L : List T}, t ∈ L → pos L t < L.length
  | x :: l, h => by
    unfold pos
    split
    · simp
    · rename_i hx
      rcases List.mem_cons.1 h with h | h
      · exact absurd h.symm hx
      · simpa using pos_lt h

theorem pos_get {t : T} : ∀ {L : List T}, t ∈ L → L[pos L t]? = some t
  | x :: l, h => by
    unfold pos
    split
    · rename_i hx; simp [hx]
    · rename_i hx
      rcases List.mem_cons.1 h with h | h
      · exact absurd h.symm hx
      · simpa using pos_get h

theorem pos_app {t : T} (M : List T) : ∀ {L : List T}, t ∈ L → pos (L ++ M) t = pos L t
  | x :: l, h => by
    simp only [List.cons_append, pos]
    split
    · rfl
    · rename_i hx
      rcases List.mem_cons.1 h with h | h
      · exact absurd h.symm hx
      · rw [pos_app M h]

theorem pos_new {t : T} (M : List T) : ∀ {L : List T}, t ∉ L → pos (L ++ t :: M) t = L.length
  | [], _ => by simp [pos]
  | x :: l, h => by
    simp only [List.cons_append, pos]
    split
    · rename_i hx; exact absurd (by simp [hx]) h
    · rw [pos_new M (fun k => h (List.mem_cons_of_mem _ k))]; rfl

theorem pos_inj {L : List T} {t s : T} (ht : t ∈ L) (hs : s ∈ L) (h : pos L t = pos L s) : t = s := by
  have a := pos_get ht
  rw [h, pos_get hs] at a
  injection a with a
  exact a.symm

noncomputable def code (L : List T) : T → Int
  | .leaf b => if b then 1 else 0
  | .node v l h => (pos L (.node v l h) : Int) + 2

def sub (L : List T) : T → Prop
  | .leaf _ => True
  | .node v l h => .node v l h ∈ L

theorem sub_mono {L M : List T} (h : ∀ t, t ∈ L → t ∈ M) : ∀ {t : T}, sub L t → sub M t
  | .leaf _, _ => trivial
  | .node _ _ _, k => h _ k

theorem sub_app {L : List T} (M : List T) {t : T} (h : sub L t) : sub (L ++ M) t := sub_mono (fun _ k => List.mem_append_left _ k) h

theorem code_app {L : List T} (M : List T) : ∀ {t : T}, sub L t → code (L ++ M) t = code L t
  | .leaf _, _ => rfl
  | .node _ _ _, h => by simp only [code]; rw [pos_app M h]

theorem code_inj {L : List T} : ∀ {t s : T}, sub L t → sub L s → code L t = code L s → t = s
  | .leaf a, .leaf b, _, _, h => by cases a <;> cases b <;> simp [code] at h ⊢
  | .leaf a, .node _ _ _, _, _, h => by cases a <;> simp only [code] at h <;> simp at h <;> omega
  | .node _ _ _, .leaf b, _, _, h => by cases b <;> simp only [code] at h <;> simp at h <;> omega
  | .node _ _ _, .node _ _ _, ht, hs, h => pos_inj ht hs (by simp only [code] at h; omega)

theorem code_nonneg (L : List T) : ∀ t : T, 0 ≤ code L t
  | .leaf a => by cases a <;> simp [code]
  | .node _ _ _ => by simp only [code]; omega

theorem code_lt {L : List T} : ∀ {t : T}, sub L t → code L t < L.length + 2
  | .leaf a, _ => by cases a <;> simp [code] <;> omega
  | .node _ _ _, h => by simp only [code]; have := pos_lt h; omega

theorem code_leaf_lt (L : List T) (b : Bool) : code L (.leaf b) < 2 := by cases b <;> simp [code]
theorem code_node_ge (L : List T) (v : Nat) (l h : T) : 2 ≤ code L (.node v l h) := by simp only [code]; omega

noncomputable def nd (L : List T) : T → Nd
  | .leaf _ => (0, 0, 0)
  | .node v l h => ((v : Int), code L l, code L h)

def kids (L : List T) : T → Prop
  | .leaf _ => False
  | .node _ l h => sub L l ∧ sub L h

theorem kids_mono {L M : List T} (h : ∀ t, t ∈ L → t ∈ M) : ∀ {t : T}, kids L t → kids M t
  | .leaf _, k => k
  | .node _ _ _, k => ⟨sub_mono h k.1, sub_mono h k.2⟩

def ClR : List T → Prop
  | [] => True
  | t :: R => ClR R ∧ t ∉ R ∧ kids R t

/-- Each tree once, behind its parts. -/
def Cl (L : List T) : Prop := ClR L.reverse

theorem Cl_nil : Cl [] := trivial

theorem Cl_snoc {L : List T} {t : T} : Cl (L ++ [t]) ↔ Cl L ∧ t ∉ L ∧ kids L t := by
  have a : t ∉ L.reverse ↔ t ∉ L := by simp
  have b : kids L.reverse t ↔ kids L t := ⟨kids_mono (fun _ h => by simpa using h), kids_mono (fun _ h => by simpa using h)⟩
  simp only [Cl, List.reverse_append, List.reverse_cons, List.reverse_nil, List.nil_append, List.singleton_append, ClR, a, b]

theorem snoc_ind {α : Type} {P : List α → Prop} (h0 : P []) (h1 : ∀ L t, P L → P (L ++ [t])) (L : List α) : P L := by
  have : ∀ R : List α, P R.reverse := by
    intro R
    induction R with
    | nil => exact h0
    | cons t R ih => rw [List.reverse_cons]; exact h1 _ _ ih
  have := this L.reverse
  rwa [List.reverse_reverse] at this

theorem Cl_kids {L : List T} : Cl L → ∀ t, t ∈ L → kids L t := by
  induction L using snoc_ind with
  | h0 => intro _ t h; cases h
  | h1 L s ih =>
    intro h t ht
    obtain ⟨h1, _, h3⟩ := Cl_snoc.1 h
    rcases List.mem_append.1 ht with k | k
    · exact kids_mono (fun _ q => List.mem_append_left _ q) (ih h1 t k)
    · rw [List.mem_singleton.1 k]; exact kids_mono (fun _ q => List.mem_append_left _ q) h3

theorem Cl_pre {L M : List T} : Cl (L ++ M) → Cl L := by
  induction M using snoc_ind with
  | h0 => intro h; simpa using h
  | h1 M t ih => intro h; rw [← List.append_assoc] at h; exact ih (Cl_snoc.1 h).1

theorem nd_app {L : List T} (M : List T) : ∀ {t : T}, kids L t → nd (L ++ M) t = nd L t
  | .node _ _ _, h => by simp only [nd]; rw [code_app M h.1, code_app M h.2]

theorem nd_inj {L : List T} : ∀ {t s : T}, kids L t → kids L s → nd L t = nd L s → t = s
  | .node _ _ _, .node _ _ _, ht, hs, h => by
    simp only [nd, Prod.mk.injEq] at h
    rw [code_inj ht.1 hs.1 h.2.1, code_inj ht.2 hs.2 h.2.2]
    have := h.1
    congr 1
    omega

noncomputable def nds (L : List T) : List Nd := L.map (nd L)

theorem nds_len (L : List T) : (nds L).length = L.length := by simp [nds]

theorem nds_snoc {L : List T} {t : T} (h : Cl (L ++ [t])) : nds (L ++ [t]) = nds L ++ [nd L t] := by
  obtain ⟨h1, _, h3⟩ := Cl_snoc.1 h
  simp only [nds, List.map_append, List.map_cons, List.map_nil, nd_app [t] h3]
  congr 1
  apply List.map_congr_left
  intro s hs
  exact nd_app [t] (Cl_kids h1 s hs)

theorem nds_get {L : List T} {t : T} (h : t ∈ L) : (nds L)[pos L t]? = some (nd L t) := by
  simp [nds, pos_get h]

theorem nds_app {L M : List T} (h : Cl (L ++ M)) : ∃ N, nds (L ++ M) = nds L ++ N := by
  induction M using snoc_ind with
  | h0 => exact ⟨[], by simp⟩
  | h1 M t ih =>
    rw [← List.append_assoc] at h ⊢
    obtain ⟨N, e⟩ := ih (Cl_snoc.1 h).1
    exact ⟨N ++ [nd (L ++ M) t], by rw [nds_snoc h, e, List.append_assoc]⟩

theorem nds_mem {L : List T} (h : Cl L) {t : T} (k : kids L t) : nd L t ∈ nds L ↔ t ∈ L := by
  constructor
  · intro m
    obtain ⟨s, hs, e⟩ := List.mem_map.1 m
    rw [← nd_inj (Cl_kids h s hs) k e]; exact hs
  · exact fun m => List.mem_map.2 ⟨t, m, rfl⟩

/-- The parts of a tree in the order in which a walk in depth completes them, behind M. -/
noncomputable def post : T → List T → List T
  | .leaf _, M => M
  | .node v l h, M => if .node v l h ∈ M then M else post h (post l M) ++ [.node v l h]

/-- What holds for a tree holds for its parts. -/
def Her (P : T → Prop) : Prop := ∀ v l h, P (.node v l h) → P l ∧ P h

theorem size_her (n : Nat) : Her (fun t => t.size ≤ n) := by
  intro v l h k
  simp only [T.size] at k
  constructor <;> omega

theorem post_spec : ∀ (t : T) (M : List T), Cl M → ∃ N, post t M = M ++ N ∧ Cl (M ++ N) ∧ sub (M ++ N) t ∧ (∀ P, Her P → P t → ∀ s, s ∈ N → P s) ∧ N.length ≤ t.size
  | .leaf _, M, h => ⟨[], by simp [post], by simpa using h, trivial, (fun _ _ _ _ k => by cases k), by simp⟩
  | .node v l h, M, hM => by
    unfold post
    by_cases hm : .node v l h ∈ M
    · rw [if_pos hm]
      exact ⟨[], by simp, by simpa using hM, by simpa [sub] using hm, (fun _ _ _ _ k => by cases k), by simp⟩
    · rw [if_neg hm]
      obtain ⟨N1, e1, c1, s1, p1, z1⟩ := post_spec l M hM
      rw [e1]
      obtain ⟨N2, e2, c2, s2, p2, z2⟩ := post_spec h (M ++ N1) c1
      rw [e2]
      refine ⟨N1 ++ N2 ++ [.node v l h], by simp, ?_, by simp [sub], ?_, by simp only [List.length_append, List.length_singleton, T.size]; omega⟩
      · have : M ++ (N1 ++ N2 ++ [T.node v l h]) = M ++ N1 ++ N2 ++ [T.node v l h] := by simp
        rw [this]
        refine Cl_snoc.2 ⟨c2, ?_, sub_app _ s1, s2⟩
        intro k
        rcases List.mem_append.1 k with k | k
        · rcases List.mem_append.1 k with k | k
          · exact hm k
          · have := p1 _ (size_her l.size) (Nat.le_refl _) _ k
            simp only [T.size] at this; omega
        · have := p2 _ (size_her h.size) (Nat.le_refl _) _ k
          simp only [T.size] at this; omega
      · intro P hP hp s hs
        rcases List.mem_append.1 hs with hs | hs
        · rcases List.mem_append.1 hs with hs | hs
          · exact p1 P hP (hP _ _ _ hp).1 s hs
          · exact p2 P hP (hP _ _ _ hp).2 s hs
        · rw [List.mem_singleton.1 hs]; exact hp

/-! Reduced and ordered trees over n variables. -/
def top (n : Nat) : T → Nat
  | .leaf _ => n
  | .node v _ _ => v

def Wf (n : Nat) : T → Prop
  | .leaf _ => True
  | .node v l h => v < n ∧ v < top n l ∧ v < top n h ∧ l ≠ h ∧ Wf n l ∧ Wf n h

theorem Wf_her (n : Nat) : Her (Wf n) := fun _ _ _ h => ⟨h.2.2.2.2.1, h.2.2.2.2.2⟩

theorem top_le {n : Nat} : ∀ {t : T}, Wf n t → top n t ≤ n
  | .leaf _, _ => Nat.le_refl _
  | .node _ _ _, h => Nat.le_of_lt h.1

def fn : T → (Nat → Bool) → Bool
  | .leaf b, _ => b
  | .node v l h, s => if s v then fn h s else fn l s

/-- Two assignments that agree from the top on give one value. -/
theorem fn_agree {n : Nat} {s r : Nat → Bool} : ∀ {t : T}, Wf n t → (∀ i, top n t ≤ i → i < n → s i = r i) → fn t s = fn t r
  | .leaf _, _, _ => rfl
  | .node v l h, w, e => by
    have hl : fn l s = fn l r := fn_agree w.2.2.2.2.1 (fun i hi hn => e i (by have := w.2.1; simp only [top]; omega) hn)
    have hh : fn h s = fn h r := fn_agree w.2.2.2.2.2 (fun i hi hn => e i (by have := w.2.2.1; simp only [top]; omega) hn)
    simp only [fn, e v (Nat.le_refl _) w.1, hl, hh]

def upd (s : Nat → Bool) (v : Nat) (b : Bool) : Nat → Bool := fun i => if i = v then b else s i

theorem fn_upd {n v : Nat} {t : T} (w : Wf n t) (h : v < top n t) (s : Nat → Bool) (b : Bool) : fn t (upd s v b) = fn t s :=
  fn_agree w (fun i hi _ => by have : i ≠ v := by omega
                               simp [upd, this])

theorem fn_lo {n v : Nat} {l h : T} (w : Wf n (.node v l h)) (s : Nat → Bool) : fn (.node v l h) (upd s v false) = fn l s := by
  simp [fn, upd]; exact fn_upd w.2.2.2.2.1 w.2.1 s false
theorem fn_hi {n v : Nat} {l h : T} (w : Wf n (.node v l h)) (s : Nat → Bool) : fn (.node v l h) (upd s v true) = fn h s := by
  simp [fn, upd]; exact fn_upd w.2.2.2.2.2 w.2.2.1 s true

/-- Reduced ordered trees of one function are equal. -/
theorem canon {n : Nat} : ∀ (k : Nat) (t s : T), t.size + s.size ≤ k → Wf n t → Wf n s → (∀ a, fn t a = fn s a) → t = s := by
  intro k
  induction k with
  | zero =>
    intro t s hk _ _ h
    cases t with
    | leaf a =>
      cases s with
      | leaf b => rw [show a = b from h (fun _ => false)]
      | node _ _ _ => simp [T.size] at hk
    | node _ _ _ => simp [T.size] at hk
  | succ k ih =>
    -- a tree that does not look at the top variable of another has not its function
    have key : ∀ (v : Nat) (l h s : T), (T.node v l h).size + s.size ≤ k + 1 → Wf n (.node v l h) → Wf n s → v < top n s → (∀ a, fn (.node v l h) a = fn s a) → False := by
      intro v l h s hk hw hs hv he
      have el : ∀ a, fn l a = fn s a := fun a => by rw [← fn_lo hw a, he, fn_upd hs hv]
      have eh : ∀ a, fn h a = fn s a := fun a => by rw [← fn_hi hw a, he, fn_upd hs hv]
      simp only [T.size] at hk
      have a := ih l s (by omega) hw.2.2.2.2.1 hs el
      have b := ih h s (by omega) hw.2.2.2.2.2 hs eh
      exact hw.2.2.2.1 (a.trans b.symm)
    intro t s hk ht hs he
    cases t with
    | leaf a =>
      cases s with
      | leaf b => rw [show a = b from he (fun _ => false)]
      | node v l h => exact (key v l h (.leaf a) (by rw [Nat.add_comm]; exact hk) hs ht hs.1 (fun x => (he x).symm)).elim
    | node v l h =>
      cases s with
      | leaf b => exact (key v l h (.leaf b) hk ht hs ht.1 he).elim
      | node v' l' h' =>
        rcases Nat.lt_trichotomy v v' with c | c | c
        · exact (key v l h _ hk ht hs c he).elim
        · subst c
          have el : ∀ a, fn l a = fn l' a := fun a => by rw [← fn_lo ht a, he, fn_lo hs a]
          have eh : ∀ a, fn h a = fn h' a := fun a => by rw [← fn_hi ht a, he, fn_hi hs a]
          simp only [T.size] at hk
          rw [ih l l' (by omega) ht.2.2.2.2.1 hs.2.2.2.2.1 el, ih h h' (by omega) ht.2.2.2.2.2 hs.2.2.2.2.2 eh]
        · exact (key v' l' h' _ (by rw [Nat.add_comm]; exact hk) hs ht c (fun x => (he x).symm)).elim

theorem Wf_size {n : Nat} : ∀ {t : T}, Wf n t → t.size + 1 ≤ 2 ^ (n - top n t)
  | .leaf _, _ => by simp [T.size, top]
  | .node v l h, w => by
    have a := Wf_size w.2.2.2.2.1
    have b := Wf_size w.2.2.2.2.2
    have p : 2 ^ (n - top n l) ≤ 2 ^ (n - v - 1) := Nat.pow_le_pow_right (by omega) (by have := w.2.1; omega)
    have q : 2 ^ (n - top n h) ≤ 2 ^ (n - v - 1) := Nat.pow_le_pow_right (by omega) (by have := w.2.2.1; omega)
    have e : 2 ^ (n - v) = 2 * 2 ^ (n - v - 1) := by
      have := w.1
      rw [show n - v = (n - v - 1) + 1 by omega, Nat.pow_succ]; simp [Nat.mul_comm]
    simp only [T.size, top]
    omega

/-! Lists of nodes that come from trees. -/
def lev (n : Nat) (ns : List Nd) (r : Int) : Int := if r < 2 then n else (ns[(r - 2).toNat]?.getD (0, 0, 0)).1

/-- May x stand behind the nodes ns? -/
def okNd (n : Nat) (ns : List Nd) (x : Nd) : Prop :=
  (0 ≤ x.1 ∧ x.1 < n) ∧ ((0 ≤ x.2.1 ∧ x.2.1 < ns.length + 2) ∧ (0 ≤ x.2.2 ∧ x.2.2 < ns.length + 2)) ∧ x.2.1 ≠ x.2.2 ∧ (x.1 < lev n ns x.2.1 ∧ x.1 < lev n ns x.2.2) ∧ x ∉ ns

def ShR (n : Nat) : List Nd → Prop
  | [] => True
  | x :: R => ShR n R ∧ okNd n R.reverse x

def Sh (n : Nat) (ns : List Nd) : Prop := ShR n ns.reverse

theorem Sh_nil (n : Nat) : Sh n [] := trivial
theorem Sh_snoc {n : Nat} {ns : List Nd} {x : Nd} : Sh n (ns ++ [x]) ↔ Sh n ns ∧ okNd n ns x := by
  simp [Sh, ShR]
theorem Sh_pre {n : Nat} {ns ms : List Nd} : Sh n (ns ++ ms) → Sh n ns := by
  induction ms using snoc_ind with
  | h0 => intro h; simpa using h
  | h1 ms t ih => intro h; rw [← List.append_assoc] at h; exact ih (Sh_snoc.1 h).1

theorem lev_app {n : Nat} {ns : List Nd} (ms : List Nd) {r : Int} (h : r < ns.length + 2) : lev n (ns ++ ms) r = lev n ns r := by
  unfold lev
  split
  · rfl
  · rw [List.getElem?_append_left (by omega)]

theorem lev_code {n : Nat} {L : List T} : ∀ {t : T}, sub L t → lev n (nds L) (code L t) = top n t
  | .leaf b, _ => by unfold lev; rw [if_pos (code_leaf_lt L b)]; rfl
  | .node v l h, k => by
    unfold lev
    have := code_node_ge L v l h
    rw [if_neg (by omega)]
    have e : (code L (.node v l h) - 2).toNat = pos L (.node v l h) := by simp only [code]; omega
    rw [e, nds_get k]; rfl

/-- Each number below comes from a tree. -/
theorem code_all {L : List T} (hc : Cl L) {r : Int} (h0 : 0 ≤ r) (h1 : r < L.length + 2) : ∃ t, sub L t ∧ code L t = r ∧ (2 ≤ r → t ∈ L) := by
  rcases Int.lt_or_le r 2 with h | h
  · rcases Int.lt_or_le r 1 with k | k
    · exact ⟨.leaf false, trivial, by simp [code]; omega, fun q => absurd q (by omega)⟩
    · exact ⟨.leaf true, trivial, by simp [code]; omega, fun q => absurd q (by omega)⟩
  · have hl : (r - 2).toNat < L.length := by omega
    refine ⟨L[(r - 2).toNat], ?_, ?_, fun _ => List.getElem_mem hl⟩
    · have m : L[(r - 2).toNat] ∈ L := List.getElem_mem hl
      have := Cl_kids hc _ m
      revert this m
      cases L[(r - 2).toNat] with
      | leaf _ => intro _ h; exact h.elim
      | node _ _ _ => intro m _; exact m
    · have m : L[(r - 2).toNat] ∈ L := List.getElem_mem hl
      have hk := Cl_kids hc _ m
      have hp : pos L L[(r - 2).toNat] = (r - 2).toNat := by
        -- each tree stands once
        have nodup : ∀ {M : List T}, Cl M → ∀ (i j : Nat) (x : T), M[i]? = some x → M[j]? = some x → i = j := by
          intro M
          induction M using snoc_ind with
          | h0 => intro _ i j x h; simp at h
          | h1 M s ih =>
            intro hM i j x hi hj
            obtain ⟨c1, c2, _⟩ := Cl_snoc.1 hM
            have get : ∀ i, (M ++ [s])[i]? = some x → (i < M.length ∧ M[i]? = some x) ∨ (i = M.length ∧ x = s) := by
              intro i h
              rcases Nat.lt_or_ge i M.length with q | q
              · left; rw [List.getElem?_append_left q] at h; exact ⟨q, h⟩
              · right
                rw [List.getElem?_append_right q] at h
                have : i - M.length = 0 := by
                  rcases Nat.eq_zero_or_pos (i - M.length) with z | z
                  · exact z
                  · rw [List.getElem?_eq_none (by simp; omega)] at h; cases h
                rw [this] at h
                simp at h
                exact ⟨by omega, h.symm⟩
            rcases get i hi with ⟨a, b⟩ | ⟨a, b⟩ <;> rcases get j hj with ⟨c, d⟩ | ⟨c, d⟩
            · exact ih c1 i j x b d
            · subst d; exact absurd (List.mem_of_getElem? b) c2
            · subst b; exact absurd (List.mem_of_getElem? d) c2
            · omega
        exact nodup hc _ _ _ (pos_get m) (List.getElem?_eq_getElem hl)
      revert hp hk
      cases L[(r - 2).toNat] with
      | leaf _ => intro h; exact h.elim
      | node _ _ _ => intro _ hp; simp only [code, hp]; omega

theorem Sh_trees {n : Nat} {ns : List Nd} : Sh n ns → ∃ L, Cl L ∧ ns = nds L ∧ ∀ t, t ∈ L → Wf n t := by
  induction ns using snoc_ind with
  | h0 => intro _; exact ⟨[], Cl_nil, rfl, fun _ h => by cases h⟩
  | h1 ns x ih =>
    intro h
    obtain ⟨h1, ⟨hv, hv'⟩, ⟨hl, hh⟩, hne, ⟨kl, kh⟩, hx⟩ := Sh_snoc.1 h
    obtain ⟨L, hc, e, hw⟩ := ih h1
    subst e
    rw [nds_len] at hl hh
    obtain ⟨l, sl, el, _⟩ := code_all hc hl.1 hl.2
    obtain ⟨t, st, et, _⟩ := code_all hc hh.1 hh.2
    have wf : ∀ {t : T}, sub L t → Wf n t := by
      intro t
      cases t with
      | leaf _ => intro _; trivial
      | node _ _ _ => exact fun k => hw _ k
    rw [← el, lev_code sl] at kl
    rw [← et, lev_code st] at kh
    have hk : kids L (.node x.1.toNat l t) := ⟨sl, st⟩
    have hn : nd L (.node x.1.toNat l t) = x := by
      simp only [nd, el, et]
      rw [Int.toNat_of_nonneg hv]
    have hm : T.node x.1.toNat l t ∉ L := fun m => hx (by rw [← hn]; exact (nds_mem hc hk).2 m)
    have hc' : Cl (L ++ [.node x.1.toNat l t]) := Cl_snoc.2 ⟨hc, hm, hk⟩
    refine ⟨L ++ [.node x.1.toNat l t], hc', ?_, ?_⟩
    · rw [nds_snoc hc', hn]
    · intro s hs
      rcases List.mem_append.1 hs with q | q
      · exact hw s q
      · rw [List.mem_singleton.1 q]
        refine ⟨by omega, by omega, by omega, ?_, wf sl, wf st⟩
        intro e
        apply hne
        rw [← el, ← et, e]

theorem trees_Sh {n : Nat} {L : List T} : Cl L → (∀ t, t ∈ L → Wf n t) → Sh n (nds L) := by
  induction L using snoc_ind with
  | h0 => intro _ _; exact Sh_nil n
  | h1 L t ih =>
    intro hc hw
    obtain ⟨c1, c2, c3⟩ := Cl_snoc.1 hc
    rw [nds_snoc hc]
    refine Sh_snoc.2 ⟨ih c1 (fun s hs => hw s (List.mem_append_left _ hs)), ?_⟩
    have w := hw t (by simp)
    have hx : nd L t ∉ nds L := fun m => c2 ((nds_mem c1 c3).1 m)
    revert w c3 hx
    cases t with
    | leaf _ => intro h; exact h.elim
    | node v l h =>
      intro c3 w hx
      have a := code_lt c3.1
      have b := code_lt c3.2
      have a0 := code_nonneg L l
      have b0 := code_nonneg L h
      refine ⟨⟨?_, ?_⟩, ⟨⟨?_, ?_⟩, ⟨?_, ?_⟩⟩, ?_, ⟨?_, ?_⟩, hx⟩
      · simp only [nd]; omega
      · have := w.1; simp only [nd]; omega
      · exact a0
      · rw [nds_len]; exact a
      · exact b0
      · rw [nds_len]; exact b
      · exact fun e => w.2.2.2.1 (code_inj c3.1 c3.2 e)
      · show (v : Int) < lev n (nds L) (code L l)
        rw [lev_code c3.1]; have := w.2.1; omega
      · show (v : Int) < lev n (nds L) (code L h)
        rw [lev_code c3.2]; have := w.2.2.1; omega

theorem nds_inj {L : List T} : ∀ {L' : List T}, Cl L → Cl L' → nds L = nds L' → L = L' := by
  induction L using snoc_ind with
  | h0 =>
    intro L' _ _ e
    have := congrArg List.length e
    rw [nds_len, nds_len] at this
    exact (List.length_eq_zero_iff.1 this.symm).symm
  | h1 L t ih =>
    intro L'
    induction L' using snoc_ind with
    | h0 =>
      intro _ _ e
      have := congrArg List.length e
      rw [nds_len, nds_len] at this
      simp at this
    | h1 L' t' _ =>
      intro h h' e
      rw [nds_snoc h, nds_snoc h'] at e
      obtain ⟨e1, e2⟩ := List.append_inj' e rfl
      obtain ⟨a, _, a3⟩ := Cl_snoc.1 h
      obtain ⟨b, _, b3⟩ := Cl_snoc.1 h'
      have := ih a b e1
      subst this
      simp only [List.cons.injEq, and_true] at e2
      rw [nd_inj a3 b3 e2]

/-- The nodes and the root of a diagram are the canonical ones of a tree. -/
def Cano (ns : List Nd) (root : Int) (t : T) : Prop := ns = nds (post t []) ∧ root = code (post t []) t

theorem Cano_iff {L : List T} (hc : Cl L) {t : T} (ht : sub L t) : (∃ t', Cano (nds L) (code L t) t') ↔ post t [] = L := by
  constructor
  · rintro ⟨t', e1, e2⟩
    obtain ⟨N, e, c, s, _⟩ := post_spec t' [] Cl_nil
    rw [List.nil_append] at e c s
    rw [e] at e1 e2
    have := nds_inj hc c e1
    subst this
    rw [← code_inj ht s e2] at e
    exact e
  · intro e
    exact ⟨t, by rw [Cano, e]; exact ⟨rfl, rfl⟩⟩

theorem code_get {L : List T} (hc : Cl L) {k : Nat} {y : T} (h : L[k]? = some y) : code L y = k + 2 := by
  have hk : k < L.length := by
    rcases Nat.lt_or_ge k L.length with q | q
    · exact q
    · rw [List.getElem?_eq_none q] at h; cases h
  obtain ⟨t, ht, e, hm⟩ := code_all hc (r := k + 2) (by omega) (by omega)
  have m := hm (by omega)
  have g := pos_get m
  have : pos L t = k := by
    have := Cl_kids hc t m
    revert this e
    cases t with
    | leaf _ => exact fun _ h => h.elim
    | node _ _ _ => intro e _; simp only [code] at e; omega
  rw [this, h] at g
  injection g with g
  rw [g]; exact e

end Go.Proofs.YtjlmeikcfdanmaaGreatDoor.BT
