/-
  WHAT THE FUNCTIONS ANSWER: the canonical numbering.
-/
import Derived.Test.YtjlmeikcfdanmaaGreatDoorVc
namespace Go.Proofs.YtjlmeikcfdanmaaGreatDoor.DE.V
open Go BT


theorem sub_of {L : List T} (hL : Cl L) : ∀ x, x ∈ L → sub L x := by
  intro x hx
  have := Cl_kids hL x hx
  revert this hx
  cases x with
  | leaf _ => exact fun _ h => h.elim
  | node _ _ _ => exact fun h _ => h

/-- The entries stay, but for those of p. -/
def Keep (p : Nat → Prop) (S S' : Store) : Prop := ∀ id e, ¬ p id → sget S id = some e → sget S' id = some e
theorem Keep.push (p : Nat → Prop) (e : Ent) (S : Store) : Keep p S (e :: S) := fun _ _ _ h => sget_push h
theorem Keep.sset {p : Nat → Prop} {S : Store} (id : Nat) (x : Ent) (h : p id) : Keep p S (sset S id x) := fun j e hj k => by
  rw [sget_sset_ne]
  · exact k
  · rintro rfl; exact hj h
theorem Keep.trans {p : Nat → Prop} {S S' S'' : Store} (h : Keep p S S') (k : Keep p S' S'') : Keep p S S'' := fun id e hp he => k id e hp (h id e hp he)

/-- The map of 'done' and the nodes written, behind the trees of M. -/
noncomputable def numM (L M : List T) : List (Int × Int) := (0, 0) :: (1, 1) :: M.map fun s => (code L s, code M s)

def eI (n : Int) : D := .i .i64 n

/-- What 'visit' finds in the store. -/
def NumI (nl' : Bool) (q r : D) (L : List T) (i1 i2 i3 i4 im : Nat) (M : List T) (S : Store) : Prop :=
  sget S i1 = some (.box [.mp im]) ∧ sget S im = some (.map (eMap eI eI (numM L M))) ∧ sget S i2 = some (.box [eNds nl' (nds L)]) ∧
  sget S i3 = some (.box [.fn 115 [.bx i1 0, .bx i2 0, .bx i3 0, .bx i4 0]]) ∧ ∃ n o, sget S i4 = some (.box [q, .sl 3 n ((nds M).map eNd) o, r]) ∧ Liv S n M.length o

/-- Boxes other than p stay. -/
def PresB (p : Nat) (S S' : Store) : Prop := ∀ id cs, id ≠ p → sget S id = some (.box cs) → sget S' id = some (.box cs)
theorem PresB.trans {p : Nat} {S S' S'' : Store} (h : PresB p S S') (k : PresB p S' S'') : PresB p S S'' := fun id cs hp e => k id cs hp (h id cs hp e)
theorem PresB.push (p : Nat) (e : Ent) (S : Store) : PresB p S (e :: S) := fun _ _ _ h => sget_push h
theorem PresB.refl (p : Nat) (S : Store) : PresB p S S := fun _ _ _ h => h
theorem Pres.B {S S' : Store} (p : Nat) (h : Pres S S') : PresB p S S' := fun id cs _ e => h id cs e

theorem assoc_code {L : List T} {M : List T} (hM : ∀ s, s ∈ M → sub L s) {t : T} (ht : sub L t) (f : T → Int) : ∀ (h : ∀ v l h, t = .node v l h → True), assoc (code L t) (M.map fun s => (code L s, f s)) = if t ∈ M then some (f t) else none := by
  intro _
  induction M with
  | nil => simp [assoc]
  | cons s M ih =>
    simp only [List.map_cons, assoc]
    have ih := ih (fun s hs => hM s (List.mem_cons_of_mem _ hs))
    by_cases e : t = s
    · subst e; simp
    · have : code L t ≠ code L s := fun h => e (code_inj ht (hM s (by simp)) h)
      simp [this, ih, e]

theorem keyE_eI : KeyE (.one .i) eI := keyE_i
theorem deq_i (n : Int) : deq (.i .i64 n) (.i .i64 n) = true := by simp [deq]
theorem deq_fn4 (a b c d : Nat) : deq (.fn 115 [.bx a 0, .bx b 0, .bx c 0, .bx d 0]) (.fn 115 [.bx a 0, .bx b 0, .bx c 0, .bx d 0]) = true := by simp [deq, deqL]

theorem NumI_keep {nl' : Bool} {q r : D} {L : List T} {i1 i2 i3 i4 im : Nat} {M : List T} {S S' : Store} {p : Nat → Prop} (h : NumI nl' q r L i1 i2 i3 i4 im M S) (hk : Keep p S S')
    (p1 : ¬ p i1) (p2 : ¬ p i2) (p3 : ¬ p i3) (p4 : ¬ p i4) (pm : ¬ p im) (pt : ∀ t, p t → sget S t ≠ some (.tok true)) : NumI nl' q r L i1 i2 i3 i4 im M S' := by
  obtain ⟨a, b, c, d, n, o, e, l⟩ := h
  refine ⟨hk _ _ p1 a, hk _ _ pm b, hk _ _ p2 c, hk _ _ p3 d, n, o, hk _ _ p4 e, ?_⟩
  rcases l with l | ⟨l1, t, l2, l3⟩
  · exact .inl l
  · exact .inr ⟨l1, t, l2, hk _ _ (fun k => pt t k l3) l3⟩

theorem numM_snoc {L M : List T} {t : T} {v : Nat} {l h : T} (hM : ∀ s, s ∈ M → sub M s) (ht : T.node v l h = t) (hn : t ∉ M) : numM L (M ++ [t]) = numM L M ++ [(code L t, (M.length : Int) + 2)] := by
  subst ht
  simp only [numM, List.map_append, List.cons_append, List.map_cons, List.map_nil]
  congr 3
  · apply List.map_congr_left
    intro s hs
    rw [code_app _ (hM s hs)]
  · simp only [code]
    rw [pos_new [] hn]

theorem v115 (nl' : Bool) (q r : D) {L : List T} (hc : Cl L) (hb : L.length ≤ 1000000) (i1 i2 i3 i4 im : Nat) (h41 : i4 ≠ i1) (h42 : i4 ≠ i2) (h43 : i4 ≠ i3) : ∀ (t : T) (M : List T) (S : Store), sub L t → Cl M → (∀ s, s ∈ M → s ∈ L) → NumI nl' q r L i1 i2 i3 i4 im M S →
    ∃ S', call dp 115 [.i .i64 (code L t), .bx i1 0, .bx i2 0, .bx i3 0, .bx i4 0] S = some (.i .i64 (code (post t M) t), S') ∧ NumI nl' q r L i1 i2 i3 i4 im (post t M) S' ∧ PresB i4 S S' := by
  intro t
  induction t with
  | leaf b =>
    intro M S ht hM hML hI
    let P : D → Store → Prop := fun r' S' => r' = .i .i64 (code M (.leaf b)) ∧ S' = S
    obtain ⟨r', S', e, rfl, rfl⟩ := f115 (.i .i64 (code L (.leaf b))) (.bx i1 0) (.bx i2 0) (.bx i3 0) (.bx i4 0) S P (by
      simp [s115, hI.1]
      have := lkD'_mp keyE_eI (a := code L (.leaf b)) rfl hI.2.1 true (.i .i64 0)
      rw [show D.i .i64 (code L (.leaf b)) = eI (code L (.leaf b)) from rfl, this]
      cases b <;> simp [numM, assoc, code, eI] <;> exact ⟨rfl, rfl⟩)
    exact ⟨S', e, hI, PresB.refl _ _⟩
  | node v l h ihl ihh =>
    intro M S ht hM hML hI
    obtain ⟨kl, kh⟩ := Cl_kids hc _ ht
    have hge := code_node_ge L v l h
    have hlt := code_lt ht
    have hpos : (code L (.node v l h) - 2).toNat = pos L (.node v l h) := by simp only [code]; omega
    have hnd := nds_get ht
    have hMs : ∀ s, s ∈ M → sub L s := fun s hs => sub_of hc s (hML s hs)
    let P : D → Store → Prop := fun r' S' => r' = .i .i64 (code (post (.node v l h) M) (.node v l h)) ∧ NumI nl' q r L i1 i2 i3 i4 im (post (.node v l h) M) S' ∧ PresB i4 S S'
    have hlook : assoc (code L (.node v l h)) (numM L M) = if T.node v l h ∈ M then some (code M (.node v l h)) else none := by
      have h0 : ¬ code L (.node v l h) = 0 := by omega
      have h1 : ¬ code L (.node v l h) = 1 := by omega
      simp only [numM, assoc, h0, h1, if_false]
      exact assoc_code hMs ht _ (fun _ _ _ _ => trivial)
    obtain ⟨r', S', e, rfl, h1, h2⟩ := f115 (.i .i64 (code L (.node v l h))) (.bx i1 0) (.bx i2 0) (.bx i3 0) (.bx i4 0) S P (by
      have hlk := lkD'_mp keyE_eI (a := code L (.node v l h)) rfl hI.2.1 true (.i .i64 0)
      rw [hlook] at hlk
      simp only [eI] at hlk
      simp [s115, hI.1, hlk]
      by_cases hm : T.node v l h ∈ M
      · have hp : post (.node v l h) M = M := by rw [post, if_pos hm]
        simp [hm]
        exact ⟨by rw [hp]; rfl, by rw [hp]; exact hI, PresB.refl _ _⟩
      · simp [hm, hI.2.2.1, hI.2.2.2.1]
        rw [wrap64 ⟨by omega, by omega⟩, iaD_nds' _ (by omega) (by rw [hpos]; exact hnd)]
        obtain ⟨c1, s1, m1, z1⟩ := post_in hc hM hML kl
        obtain ⟨c2, s2, m2, z2⟩ := post_in hc c1 m1 kh
        have hp : post (.node v l h) M = post h (post l M) ++ [.node v l h] := by rw [post, if_neg hm]
        have hpi := post_in hc hM hML ht
        rw [hp] at hpi
        obtain ⟨N2, e2, _⟩ := post_spec h (post l M) c1
        have hcode : code (post h (post l M)) l = code (post l M) l := by rw [e2, code_app _ s1]
        have hz : (post h (post l M)).length + 1 ≤ L.length := by simpa using hpi.2.2.2
        have hnm : T.node v l h ∉ post h (post l M) := (Cl_snoc.1 hpi.1).2.1
        have g1 := sget_lt hI.1
        have g2 := sget_lt hI.2.2.1
        have g3 := sget_lt hI.2.2.2.1
        have gm := sget_lt hI.2.1
        have g4 : i4 < S.length := by obtain ⟨_, _, _, _, _, _, e, _⟩ := hI; exact sget_lt e
        have hm1 : im ≠ i4 := by rintro rfl; obtain ⟨_, b, _, _, _, _, e, _⟩ := hI; rw [b] at e; cases e
        have hI1 := NumI_keep hI (Keep.push (fun _ => False) (.box (eNd (nd L (.node v l h)))) S) id id id id id (fun _ k => k.elim)
        obtain ⟨S1, q1, I1, P1⟩ := ihl M _ kl hM hML hI1
        obtain ⟨S2, q2, I2, P2⟩ := ihh (post l M) S1 kh c1 m1 I1
        have b0 : sget (Ent.box (eNd (nd L (.node v l h))) :: S) S.length = some (.box (eNd (nd L (.node v l h)))) := by simp
        have b1 := P1 _ _ (by omega) b0
        have b2 := P2 _ _ (by omega) b1
        have hS : PresB i4 S (Ent.box (eNd (nd L (.node v l h))) :: S) := PresB.push _ _ _
        simp only [OX_some, ldD_el_nd, cellsK_nd, Option.bind_some, splice_nd]
        simp only [nd] at b0 b1 b2 hI1 q1 P1 hS ⊢
        generalize Ent.box (eNd ((v : Int), code L l, code L h)) :: S = Sa at *
        simp only [b0, hI1.2.2.2.1, ldE_box, rdK_one, nd_1, nd_2, List.getElem?_cons_zero, OX_some, fnD_fn, q1, I1.2.2.2.1, deq_fn4, true_and, b1, deq_i, q2, b2]
        simp only [eNd, stE3_1, isCell_i, OX_some]
        have hlt2 := sget_lt b2
        have b3 : sget (sset S2 S.length (.box [.i .i64 v, .i .i64 (code (post l M) l), .i .i64 (code L h)])) S.length = _ := sget_sset _ hlt2
        simp only [b3, stE3_2, isCell_i, OX_some]
        have k3 : Keep (fun j => j = S.length) S2 (sset (sset S2 S.length (.box [.i .i64 v, .i .i64 (code (post l M) l), .i .i64 (code L h)])) S.length (.box [.i .i64 v, .i .i64 (code (post l M) l), .i .i64 (code (post h (post l M)) h)])) :=
          (Keep.sset (p := fun j => j = S.length) _ _ rfl).trans (Keep.sset (p := fun j => j = S.length) _ _ rfl)
        have I3 := NumI_keep I2 k3 (by omega) (by omega) (by omega) (by omega) (by omega) (by rintro _ rfl h; rw [b2] at h; cases h)
        have b4 : sget (sset (sset S2 S.length (.box [.i .i64 v, .i .i64 (code (post l M) l), .i .i64 (code L h)])) S.length (.box [.i .i64 v, .i .i64 (code (post l M) l), .i .i64 (code (post h (post l M)) h)])) S.length = _ := sget_sset _ (by rw [sset_len]; exact hlt2)
        generalize sset (sset S2 S.length (.box [.i .i64 v, .i .i64 (code (post l M) l), .i .i64 (code L h)])) S.length (.box [.i .i64 v, .i .i64 (code (post l M) l), .i .i64 (code (post h (post l M)) h)]) = S3 at *
        have P3 : PresB i4 S S3 := by
          intro id cs hid e
          exact k3 _ _ (by have := sget_lt e; simp only; omega) (P2 _ _ hid (P1 _ _ hid (hS _ _ hid e)))
        obtain ⟨j1, jm, j2, j3, n, o, j4, jl⟩ := I3
        have hlk : ((nds (post h (post l M))).map eNd).length = (post h (post l M)).length := by rw [List.length_map, nds_len]
        obtain ⟨t', S4, q4, l4, p4, m4, z4⟩ := app_liv (k := 3) (n' := false) (xs := (nds (post h (post l M))).map eNd) (ys := [[.i .i64 v, .i .i64 (code (post l M) l), .i .i64 (code (post h (post l M)) h)]]) (o' := .ro) (by rw [hlk]; exact jl) (by rw [hlk]; simp [maxLenD]; omega) (by simp)
        have j4' := p4 _ _ j4
        simp only [j4, ldE_box, rdK_one, List.getElem?_cons_succ, List.getElem?_cons_zero, OX_some, b4, rdK_lit3]
        rw [show cellsV 3 true [D.agg [.i .i64 v, .i .i64 (code (post l M) l), .i .i64 (code (post h (post l M)) h)]] = some [[.i .i64 v, .i .i64 (code (post l M) l), .i .i64 (code (post h (post l M)) h)]] from rfl]
        simp only [OX_some, q4, j4', stE3_1, isCell_sl]
        have hX : (nds (post h (post l M))).map eNd ++ [[D.i .i64 v, .i .i64 (code (post l M) l), .i .i64 (code (post h (post l M)) h)]] = (nds (post h (post l M) ++ [.node v l h])).map eNd := by
          rw [nds_snoc hpi.1, List.map_append, ← hcode]; rfl
        rw [hX]
        have hlX : ((nds (post h (post l M) ++ [.node v l h])).map eNd).length = (post h (post l M)).length + 1 := by rw [List.length_map, nds_len]; simp
        have a1 := j1
        have s1 : sget (sset S4 i4 (.box [q, .sl 3 false ((nds (post h (post l M) ++ [.node v l h])).map eNd) (.tok t'), r])) i1 = _ := (sget_sset_ne _ (Ne.symm h41)).trans (p4 _ _ j1)
        have s2 : sget (sset S4 i4 (.box [q, .sl 3 false ((nds (post h (post l M) ++ [.node v l h])).map eNd) (.tok t'), r])) i2 = _ := (sget_sset_ne _ (Ne.symm h42)).trans (p4 _ _ j2)
        have s3 : sget (sset S4 i4 (.box [q, .sl 3 false ((nds (post h (post l M) ++ [.node v l h])).map eNd) (.tok t'), r])) i3 = _ := (sget_sset_ne _ (Ne.symm h43)).trans (p4 _ _ j3)
        have s4 : sget (sset S4 i4 (.box [q, .sl 3 false ((nds (post h (post l M) ++ [.node v l h])).map eNd) (.tok t'), r])) i4 = _ := sget_sset _ (sget_lt j4')
        have sm : sget (sset S4 i4 (.box [q, .sl 3 false ((nds (post h (post l M) ++ [.node v l h])).map eNd) (.tok t'), r])) im = _ := (sget_sset_ne _ hm1).trans (m4 _ _ jm)
        have st : sget (sset S4 i4 (.box [q, .sl 3 false ((nds (post h (post l M) ++ [.node v l h])).map eNd) (.tok t'), r])) t' = _ := (sget_sset_ne _ (by rintro rfl; rw [j4'] at l4; cases l4)).trans l4
        have P5 : PresB i4 S (sset S4 i4 (.box [q, .sl 3 false ((nds (post h (post l M) ++ [.node v l h])).map eNd) (.tok t'), r])) := fun id cs hid e => (sget_sset_ne _ hid).trans (p4 _ _ (P3 _ _ hid e))
        generalize sset S4 i4 (.box [q, .sl 3 false ((nds (post h (post l M) ++ [.node v l h])).map eNd) (.tok t'), r]) = S5 at *
        have hm2s : ∀ s, s ∈ post h (post l M) → sub (post h (post l M)) s := sub_of c2
        have hm2L : ∀ s, s ∈ post h (post l M) → sub L s := fun s hs => sub_of hc s (m2 s hs)
        have ha : assoc (code L (.node v l h)) (numM L (post h (post l M))) = none := by
          have h0 : ¬ code L (.node v l h) = 0 := by omega
          have h1 : ¬ code L (.node v l h) = 1 := by omega
          simp only [numM, assoc, h0, h1, if_false]
          rw [assoc_code hm2L ht _ (fun _ _ _ _ => trivial), if_neg hnm]
        have hmu := muD'_new keyE_eI (ev := eI) (a := code L (.node v l h)) (b := ((post h (post l M)).length : Int) + 2) rfl sm ha
        rw [← numM_snoc (v := v) (l := l) (h := h) hm2s rfl hnm] at hmu
        have hs6 := sget_sset (Ent.map (eMap eI eI (numM L (post h (post l M) ++ [.node v l h])))) (sget_lt sm)
        have hlk6 := lkD'_mp keyE_eI (a := code L (.node v l h)) rfl hs6 false (.i .i64 0)
        have has : assoc (code L (.node v l h)) (numM L (post h (post l M) ++ [.node v l h])) = some (((post h (post l M)).length : Int) + 2) := by
          rw [numM_snoc (v := v) (l := l) (h := h) hm2s rfl hnm, assoc_app, ha]
          simp [assoc]
        rw [has] at hlk6
        simp only [eI] at hmu hlk6
        have hi1 : im ≠ i1 := by rintro rfl; rw [sm] at s1; cases s1
        have hi2 : im ≠ i2 := by rintro rfl; rw [sm] at s2; cases s2
        have hi3 : im ≠ i3 := by rintro rfl; rw [sm] at s3; cases s3
        have hit : t' ≠ im := by rintro rfl; rw [sm] at st; cases st
        simp only [s1, s4, ldE_box, rdK_one, List.getElem?_cons_succ, List.getElem?_cons_zero, OX_some, lenD_sl, bin_sub, bin_add, hlX]
        rw [wrap64 (n := ((((post h (post l M)).length + 1 : Nat) : Int) - 1)) ⟨by omega, by omega⟩, wrap64 ⟨by omega, by omega⟩]
        have e9 : ((((post h (post l M)).length + 1 : Nat) : Int) - 1 + 2) = ((post h (post l M)).length : Int) + 2 := by omega
        rw [e9, hmu]
        simp only [OX_some, sget_sset_ne _ (Ne.symm hi1), s1, ldE_box, rdK_one, List.getElem?_cons_zero, hlk6, Option.map_some, okD_fs]
        refine ⟨?_, ?_, ?_⟩
        · rw [hp]
          simp only [code]
          rw [pos_new [] hnm]
          rfl
        · rw [hp]
          refine ⟨(sget_sset_ne _ (Ne.symm hi1)).trans s1, hs6, (sget_sset_ne _ (Ne.symm hi2)).trans s2, (sget_sset_ne _ (Ne.symm hi3)).trans s3, false, .tok t', (sget_sset_ne _ (Ne.symm hm1)).trans s4, .inr ⟨rfl, t', rfl, (sget_sset_ne _ hit).trans st⟩⟩
        · exact fun id cs hid e => (sget_sset_ne _ (by rintro rfl; rw [hI.2.1] at e; cases e)).trans (P5 _ _ hid e))
    exact ⟨S', e, h1, h2⟩

@[simp] theorem ldc_bx (S : Store) (k : Nat) (g : Bool) (id o : Nat) : ldc S k g (.bx id o) = ldE (sget S id) k g o := by simp only [ldc, ldD_bx]

theorem v72 (nl nl' : Bool) (ord : List Row) {L : List T} (hc : Cl L) (hb : L.length ≤ 1000000) (t : T) (ht : sub L t) (hn : nl = true → ord = []) (ho : ord.length ≤ maxLenD) :
    ∃ n : Bool, (n = true → post t [] = []) ∧ isoCall (call dp) 72 [eRows nl ord, eNds nl' (nds L), .i .i64 (code L t)] = some (eB nl n ord (nds (post t [])) (code (post t []) t)) := by
  let S0 : Store := [Ent.box [.fn 115 [.bx 4 0, .bx 0 0, .bx 5 0, .bx 2 0]], .box [.mp 3], .map [(.i .i64 0, .i .i64 0), (.i .i64 1, .i .i64 1)], .box [eRows nl ord, .sl 3 true [] .ro, .i .i64 0], .box [.sl 2 true [] .ro, .sl 3 true [] .ro, .i .i64 0], .box [eNds nl' (nds L)]]
  have hI : NumI nl' (eRows nl ord) (.i .i64 0) L 4 0 5 2 3 [] S0 := ⟨rfl, rfl, rfl, rfl, true, .ro, rfl, .inl ⟨rfl, rfl, rfl⟩⟩
  obtain ⟨S1, q1, ⟨I1, I2, I3, I4, n, o, I5, I6⟩, P1⟩ := v115 nl' (eRows nl ord) (.i .i64 0) hc hb 4 0 5 2 3 (by omega) (by omega) (by omega) t [] S0 ht Cl_nil (by simp) hI
  have hx3 : sget S1 1 = some (.box [.sl 2 true [] .ro, .sl 3 true [] .ro, .i .i64 0]) := P1 1 _ (by omega) rfl
  refine ⟨n, ?_, ?_⟩
  · rcases I6 with ⟨_, h, _⟩ | ⟨h, _⟩
    · exact fun _ => List.length_eq_zero_iff.1 h
    · intro k; rw [k] at h; cases h
  · apply i72 _ _ _ _ (by simp [noRefL]) (by simp)
    simp [s72, v49 nl ord hn ho, bldV, muD', isKey, isSK, muD, keq, seq1]
    change (call dp) 115 [.i .i64 (code L t), .bx 4 0, .bx 0 0, .bx 5 0, .bx 2 0] S0 = _ at q1
    have q1' := q1
    simp only [S0] at q1'
    rw [q1']
    have l2 := sget_lt I5
    have l1 := sget_lt hx3
    have e1 : sget (sset S1 2 (.box [eRows nl ord, .sl 3 n ((nds (post t [])).map eNd) o, .i .i64 (code (post t []) t)])) 2 = _ := sget_sset _ l2
    have e2 : sget (sset S1 2 (.box [eRows nl ord, .sl 3 n ((nds (post t [])).map eNd) o, .i .i64 (code (post t []) t)])) 1 = _ := (sget_sset_ne _ (by omega)).trans hx3
    have e3 : sget (sset (sset S1 2 (.box [eRows nl ord, .sl 3 n ((nds (post t [])).map eNd) o, .i .i64 (code (post t []) t)])) 1 (.box [eRows nl ord, .sl 3 n ((nds (post t [])).map eNd) o, .i .i64 (code (post t []) t)])) 1 = _ := sget_sset _ (by rw [sset_len]; exact l1)
    simp [I5, e1, e2, e3]
    rfl

end Go.Proofs.YtjlmeikcfdanmaaGreatDoor.DE.V
