/-
  WHAT THE FUNCTIONS ANSWER: And, Or.
-/
import Derived.Test.YtjlmeikcfdanmaaGreatDoorVi
import Derived.Test.YtjlmeikcfdanmaaGreatDoorVj
namespace Go.Proofs.YtjlmeikcfdanmaaGreatDoor.DE.V
open Go BT

/-- A valid diagram and its tree. -/
def VT (ord : List Row) (ns : List Nd) (root : Int) (t : T) : Prop :=
  (OrdOk ord ∧ ord.length ≤ 4096) ∧ Wf ord.length t ∧ ns = nds (post t []) ∧ root = code (post t []) t ∧ (post t []).length ≤ 4096

theorem post_nil (t : T) : Cl (post t []) ∧ sub (post t []) t ∧ ∀ n, Wf n t → ∀ s, s ∈ post t [] → Wf n s := by
  obtain ⟨N, e, c, s, p, _⟩ := post_spec t [] Cl_nil
  rw [List.nil_append] at e c s
  rw [e]
  exact ⟨c, s, fun n hw s hs => p _ (Wf_her n) hw s hs⟩

theorem VB_VT {ord : List Row} {ns : List Nd} {root : Int} : VB ord ns root ↔ ∃ t, VT ord ns root t := by
  constructor
  · rintro ⟨ho, hl, ⟨hs, _, _⟩, t, e1, e2⟩
    obtain ⟨L, hL, e, hw⟩ := Sh_trees hs
    obtain ⟨c, s, _⟩ := post_nil t
    have : L = post t [] := nds_inj hL c (by rw [← e, e1])
    subst this
    refine ⟨t, ho, wfs hw s, e1, e2, ?_⟩
    rw [e1, nds_len] at hl; exact hl
  · rintro ⟨t, ho, hw, rfl, rfl, hl⟩
    obtain ⟨c, s, w⟩ := post_nil t
    refine ⟨ho, by rw [nds_len]; exact hl, ⟨trees_Sh c (w _ hw), code_nonneg _ _, by rw [nds_len]; exact code_lt s⟩, t, rfl, rfl⟩

theorem VT.unique {ord : List Row} {ns : List Nd} {root : Int} {t s : T} (h : VT ord ns root t) (k : VT ord ns root s) : t = s := by
  have e := h.2.2.1.symm.trans k.2.2.1
  have := nds_inj (post_nil t).1 (post_nil s).1 e
  have r := h.2.2.2.1.symm.trans k.2.2.2.1
  rw [← this] at r
  exact code_inj (post_nil t).2.1 (this ▸ (post_nil s).2.1) r

theorem strip_idem : ∀ d : D, strip (strip d) = strip d := by
  intro d
  cases d with
  | agg cs =>
    simp only [strip]
    congr 1
    induction cs with
    | nil => rfl
    | cons c cs ih =>
      simp only [strip1L, ih]
      congr 1
      cases c <;> rfl
  | _ => rfl

theorem stripL_idem : ∀ l : List D, stripL (stripL l) = stripL l
  | [] => rfl
  | x :: l => by simp [stripL, strip_idem, stripL_idem l]

theorem isoCall_strip (cf : CallF) (g : Nat) (args : List D) : isoCall cf g args = isoCall cf g (stripL args) := by
  simp only [isoCall, stripL_idem]

theorem small {n : Nat} (h : n ≤ 7) {t : T} (w : Wf n t) : (post t []).length ≤ 127 := by
  have a := post_len w
  have b : 2 ^ n ≤ 2 ^ 7 := Nat.pow_le_pow_right (by omega) h
  simp at b
  omega

open Classical in
theorem v54 (d : Bool) (na na' nb nb' : Bool) (oa : List Row) (xa xb : List Nd) (ra rb : Int) (t s : T) (ha : VT oa xa ra t) (hb : VT oa xb rb s) (h7 : oa.length ≤ 7) (hn : na = true → oa = []) (hn' : nb = true → oa = []) :
    ∃ n : Bool, (n = true → post (opT oa.length d t s) [] = []) ∧ isoCall (call dp) 54 [eB na na' oa xa ra, eB nb nb' oa xb rb, .i .i64 (dI d)] =
      some (.tup [eB na n oa (nds (post (opT oa.length d t s) [])) (code (post (opT oa.length d t s) []) (opT oa.length d t s)), .i .i64 0]) := by
  have hva : VB oa xa ra := VB_VT.2 ⟨t, ha⟩
  have hvb : VB oa xb rb := VB_VT.2 ⟨s, hb⟩
  have za := small h7 ha.2.1
  have zb := small h7 hb.2.1
  obtain ⟨_, wt, rfl, rfl, _⟩ := ha
  obtain ⟨_, ws, rfl, rfl, _⟩ := hb
  obtain ⟨ca, sa, pa⟩ := post_nil t
  obtain ⟨cb, sb, pb⟩ := post_nil s
  have e33a := v33 na na' oa (nds (post t [])) (code (post t []) t) hn (by rw [nds_len]; unfold Bd; omega) (by unfold Bd; omega)
  have e33b := v33 nb nb' oa (nds (post s [])) (code (post s []) s) hn' (by rw [nds_len]; unfold Bd; omega) (by unfold Bd; omega)
  have e74 := v74 na nb oa oa (by unfold Bd; omega)
  simp only [hva, hvb, decide_true, eB] at e33a e33b e74
  let S0 : Store := [Ent.box [.fn 94 [.bx 2 0, .bx 6 0, .bx 0 0, .bx 1 0, .bx 7 0, .bx 4 0]], .box [.mp 5], .map [], .box [.sl 3 true [] .ro, .nilm], .box [.sl 2 true [] .ro, .sl 3 true [] .ro, .i .i64 0], .box [.i .i64 (dI d)],
    .box [eRows nb oa, eNds nb' (nds (post s [])), .i .i64 (code (post s []) s)], .box [eRows na oa, eNds na' (nds (post t [])), .i .i64 (code (post t []) t)]]
  obtain ⟨u, M', done', S', q, o, w, c, _, l, _, hD, I, Pb, _⟩ := v94 d ca cb na na' nb nb' oa oa (code (post t []) t) (code (post s []) s) 2 6 0 1 7 4 5 (pa _ wt) (pb _ ws) rfl
    (Nat.le_trans (Nat.mul_le_mul (show (post t []).length + 2 ≤ 200 by omega) (show (post s []).length + 2 ≤ 200 by omega)) (by decide)) (by omega) (by omega) (by decide) (by decide) (by decide) (by decide) (by decide)
    (t.size + s.size + 1) t s [] [] S0 (by omega) sa sb Cl_nil (by simp) ⟨rfl, rfl, rfl, rfl, rfl⟩ rfl ⟨by simp, fun _ h => by cases h⟩ ⟨true, .ro, .nilm, rfl, .inl ⟨rfl, rfl, rfl⟩, (fun _ h => by cases h), .inl ⟨rfl, rfl⟩⟩
  have hu := IsOp_opT wt ws o
  subst hu
  have hpr : ((post t []).length + 2) * ((post s []).length + 2) ≤ 1000000 := Nat.le_trans (Nat.mul_le_mul (show (post t []).length + 2 ≤ 200 by omega) (show (post s []).length + 2 ≤ 200 by omega)) (by decide)
  have hM : M'.length ≤ 1000000 := Nat.le_trans l (Nat.le_trans hD.len hpr)
  obtain ⟨n1, o1, u1, j1, j2, _⟩ := I
  obtain ⟨n, hn2, e72⟩ := v72 na n1 oa c hM (opT oa.length d t s) w hn (by simp [maxLenD]; omega)
  have zu := small h7 (opT_wf oa.length d t s)
  refine ⟨n, hn2, ?_⟩
  have p0 := Pb 0 _ (by decide) (show sget S0 0 = some (.box [eRows na oa, eNds na' (nds (post t [])), .i .i64 (code (post t []) t)]) from rfl)
  have p3 := Pb 3 _ (by decide) (show sget S0 3 = some (.box [.sl 2 true [] .ro, .sl 3 true [] .ro, .i .i64 0]) from rfl)
  have l3 := sget_lt p3
  rw [isoCall_strip] at e72
  have e72' := isoCall_strip (call dp) 72 [eRows na oa, .sl 3 n1 ((nds M').map eNd) o1, .i .i64 (code M' (opT oa.length d t s))]
  rw [show stripL [eRows na oa, .sl 3 n1 ((nds M').map eNd) o1, .i .i64 (code M' (opT oa.length d t s))] = stripL [eRows na oa, eNds n1 (nds M'), .i .i64 (code M' (opT oa.length d t s))] from rfl, e72] at e72'
  apply i54 _ _ _ _ (by simp [noRefL]) (by simp [noRef, noRefL])
  simp [s54, e33a, e33b, e74]
  simp only [S0] at q
  rw [q]
  simp [p0, j1, e72', show ¬ 3 = S'.length by omega, p3, -sset_cons]
  rw [if_neg (by rw [nds_len]; omega), sget_sset _ (by simp; omega)]
  simp
  rfl

open Classical in
theorem v54_bad (d : Int) (na na' nb nb' : Bool) (oa ob : List Row) (xa xb : List Nd) (ra rb : Int) (hn : na = true → oa = []) (hn' : nb = true → ob = []) (hb : Bd (xa.length + 2)) (hb' : Bd oa.length) (hc : Bd (xb.length + 2)) (hc' : Bd ob.length)
    (h : ¬ (VB oa xa ra ∧ VB ob xb rb ∧ oa = ob)) : isoCall (call dp) 54 [eB na na' oa xa ra, eB nb nb' ob xb rb, .i .i64 d] = some (.tup [zB, .i .i64 1]) := by
  have e33a := v33 na na' oa xa ra hn hb hb'
  have e33b := v33 nb nb' ob xb rb hn' hc hc'
  have e74 := v74 na nb oa ob hc'
  simp only [eB] at e33a e33b e74
  apply i54 _ _ _ _ (by simp [noRefL]) (by simp [noRef, noRefL, zB])
  simp [s54, e33a, e33b, e74]
  by_cases h1 : VB oa xa ra
  · by_cases h2 : VB ob xb rb
    · by_cases h3 : oa = ob
      · exact absurd ⟨h1, h2, h3⟩ h
      · simp [h1, h2, h3]; rfl
    · simp [h1, h2]; rfl
  · simp [h1]; rfl

theorem v21 {na na' nb nb' nc nc' : Bool} {oa ob oc : List Row} {xa xb xc : List Nd} {ra rb rc e : Int} (h : isoCall (call dp) 54 [eB na na' oa xa ra, eB nb nb' ob xb rb, .i .i64 0] = some (.tup [eB nc nc' oc xc rc, .i .i64 e])) :
    isoCall (call dp) 21 [eB na na' oa xa ra, eB nb nb' ob xb rb] = some (.tup [eB nc nc' oc xc rc, .i .i64 e]) := by
  apply i21 _ _ _ (by simp [noRefL]) (by simp [noRef, noRefL])
  simp only [eB] at h
  simp [s21, h]
  rfl

theorem v22 {na na' nb nb' nc nc' : Bool} {oa ob oc : List Row} {xa xb xc : List Nd} {ra rb rc e : Int} (h : isoCall (call dp) 54 [eB na na' oa xa ra, eB nb nb' ob xb rb, .i .i64 1] = some (.tup [eB nc nc' oc xc rc, .i .i64 e])) :
    isoCall (call dp) 22 [eB na na' oa xa ra, eB nb nb' ob xb rb] = some (.tup [eB nc nc' oc xc rc, .i .i64 e]) := by
  apply i22 _ _ _ (by simp [noRefL]) (by simp [noRef, noRefL])
  simp only [eB] at h
  simp [s22, h]
  rfl

/-- The diagram of a tree. -/
noncomputable def eT (na n : Bool) (o : List Row) (t : T) : D := eB na n o (nds (post t [])) (code (post t []) t)

/-- What may be nil. -/
def nlOk (na : Bool) (o : List Row) : Prop := na = true → o = []

theorem VT_eT {o : List Row} {t : T} (ho : OrdOk o) (h7 : o.length ≤ 7) (w : Wf o.length t) : VT o (nds (post t [])) (code (post t []) t) t :=
  ⟨⟨ho, by omega⟩, w, rfl, rfl, by have := small h7 w; omega⟩

theorem andT (na na' nb nb' : Bool) (o : List Row) (t s : T) (ho : OrdOk o) (h7 : o.length ≤ 7) (wt : Wf o.length t) (ws : Wf o.length s) (hn : nlOk na o) (hn' : nlOk nb o) :
    ∃ n : Bool, (n = true → post (opT o.length false t s) [] = []) ∧ isoCall (call dp) 21 [eT na na' o t, eT nb nb' o s] = some (.tup [eT na n o (opT o.length false t s), .i .i64 0]) := by
  obtain ⟨n, h1, h2⟩ := v54 false na na' nb nb' o _ _ _ _ t s (VT_eT ho h7 wt) (VT_eT ho h7 ws) h7 hn hn'
  exact ⟨n, h1, v21 h2⟩

theorem orT (na na' nb nb' : Bool) (o : List Row) (t s : T) (ho : OrdOk o) (h7 : o.length ≤ 7) (wt : Wf o.length t) (ws : Wf o.length s) (hn : nlOk na o) (hn' : nlOk nb o) :
    ∃ n : Bool, (n = true → post (opT o.length true t s) [] = []) ∧ isoCall (call dp) 22 [eT na na' o t, eT nb nb' o s] = some (.tup [eT na n o (opT o.length true t s), .i .i64 0]) := by
  obtain ⟨n, h1, h2⟩ := v54 true na na' nb nb' o _ _ _ _ t s (VT_eT ho h7 wt) (VT_eT ho h7 ws) h7 hn hn'
  exact ⟨n, h1, v22 h2⟩

/-! Negation. -/
def swN (x : Nd) : Nd := (x.1, swp x.2.1, swp x.2.2)

open Classical in
theorem v23 (nl nl' : Bool) (ord : List Row) (ns : List Nd) (root : Int) (hn : nl = true → ord = []) (hb : Bd (ns.length + 2)) (hb' : Bd ord.length) (hv : VB ord ns root) :
    isoCall (call dp) 23 [eB nl nl' ord ns root] = some (eB nl (decide (ns.length = 0)) ord (ns.map swN) (swp root)) := by
  have e33 := v33 nl nl' ord ns root hn hb hb'
  simp only [hv, decide_true, eB] at e33
  have ez := v55 root hv.2.2.1.2.1
  apply i23 _ _ (by simp [noRefL]) (by simp)
  simp [s23, e33, v49 nl ord hn (by have := hv.1.2; simp [maxLenD]; omega), ez, bldV]
  have hpos : ∀ x, x ∈ ns → 0 ≤ x.2.1 ∧ 0 ≤ x.2.2 := by
    intro x hx
    obtain ⟨k, hk⟩ := List.mem_iff_getElem?.1 hx
    have := (okNd_of hk hv.2.2.1.1).2.1
    exact ⟨this.1.1, this.2.1⟩
  have h40 := hv.2.1
  let J : Nat → List D → Store → Prop := fun q fr S => ∃ k a23 o, k + q = ns.length ∧ sget S 1 = some (.box [.sl 2 true [] .ro, .sl 3 true [] .ro, .i .i64 0]) ∧
    sget S 2 = some (.box [eRows nl ord, .sl 3 (decide (k = 0)) (((ns.take k).map swN).map eNd) o, .i .i64 (swp root)]) ∧ Liv S (decide (k = 0)) k o ∧
    fr = mkf 44 [(2, .bx 1 0), (3, .fn 55 []), (4, .bx 2 0), (20, eNds nl' ns), (21, .i .i64 ns.length), (22, .i .i64 k), (23, a23)]
  refine W_loop J ?_ ns.length _ _ ⟨0, _, .ro, by simp, rfl, rfl, .inl ⟨rfl, rfl, rfl⟩, rfl⟩
  rintro q fr S ⟨k, a23, o, hk, h1, h2, hl, rfl⟩
  rw [← wp_W, e23_0]
  simp [s23_0]
  by_cases hkl : k < ns.length
  · obtain ⟨x, hx⟩ : ∃ x, ns[k]? = some x := ⟨_, List.getElem?_eq_getElem (by omega)⟩
    have hp := hpos x (List.mem_of_getElem? hx)
    have l2 := sget_lt h2
    simp [hkl, iaD_nds _ hx, h2, show ¬ 2 = S.length by omega, v55 _ hp.1, v55 _ hp.2, bldV]
    rw [show [D.i .i64 x.1, .i .i64 (swp x.2.1), .i .i64 (swp x.2.2)] = eNd (swN x) from rfl]
    have hlen : (((ns.take k).map swN).map eNd).length = k := by simp; omega
    have h1' : sget (Ent.box (eNd x) :: S) 1 = _ := sget_push h1
    have h2' : sget (Ent.box (eNd x) :: S) 2 = _ := sget_push h2
    obtain ⟨t, S', q4, l4, p4, m4, z4⟩ := app_liv (k := 3) (n' := false) (xs := ((ns.take k).map swN).map eNd) (ys := [eNd (swN x)]) (o' := .ro) (S := Ent.box (eNd x) :: S) (by rw [hlen]; exact hl.push _) (by rw [hlen]; simp [maxLenD]; omega) (by simp)
    have g1 := p4 _ _ h1'
    have g2 := p4 _ _ h2'
    simp at q4
    simp [q4, g2, wrapS (show Bd k by unfold Bd; omega)]
    refine ⟨q - 1, by omega, k + 1, _, .tok t, by omega, (sget_sset_ne _ (by omega)).trans g1, ?_, .inr ⟨by simp, t, rfl, (sget_sset_ne _ (by rintro rfl; rw [g2] at l4; cases l4)).trans l4⟩, rfl⟩
    rw [sget_sset _ (sget_lt g2), take_snoc hx]
    simp
  · have hk' : k = ns.length := by omega
    subst hk'
    simp at h2
    simp [e23_r0, s23_r0, h1, h2]
    rw [sget_sset _ (sget_lt h1)]
    simp
    rw [← List.map_map]
    rfl

theorem notT_spec (nl nl' : Bool) (o : List Row) (t : T) (ho : OrdOk o) (h7 : o.length ≤ 7) (w : Wf o.length t) (hn : nlOk nl o) :
    ∃ n : Bool, (n = true → post (notT t) [] = []) ∧ isoCall (call dp) 23 [eT nl nl' o t] = some (eT nl n o (notT t)) := by
  have hs := small h7 w
  have e := v23 nl nl' o (nds (post t [])) (code (post t []) t) hn (by rw [nds_len]; unfold Bd; omega) (by unfold Bd; omega) (VB_VT.2 ⟨t, VT_eT ho h7 w⟩)
  have hp := post_not t []
  simp only [List.map_nil] at hp
  refine ⟨decide ((nds (post t [])).length = 0), ?_, e.trans ?_⟩
  · simp only [decide_eq_true_eq, nds_len, hp]
    intro h
    rw [List.length_eq_zero_iff.1 h]; rfl
  · have h1 : (nds (post t [])).map swN = nds (post (notT t) []) := by rw [hp]; exact (nds_not (Cl_kids (post_nil t).1)).symm
    have h2 : swp (code (post t []) t) = code (post (notT t) []) (notT t) := by rw [hp]; exact (code_not _ t).symm
    rw [h1, h2]; rfl

end Go.Proofs.YtjlmeikcfdanmaaGreatDoor.DE.V
