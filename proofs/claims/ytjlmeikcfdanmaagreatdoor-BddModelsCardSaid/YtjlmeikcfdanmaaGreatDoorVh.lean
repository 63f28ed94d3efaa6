/-
  WHAT THE FUNCTIONS ANSWER: unique nodes; the combination of two diagrams.
-/
import Derived.Test.YtjlmeikcfdanmaaGreatDoorVe
import Derived.Test.YtjlmeikcfdanmaaGreatDoorSb
import Derived.Test.YtjlmeikcfdanmaaGreatDoorTb
namespace Go.Proofs.YtjlmeikcfdanmaaGreatDoor.DE.V
open Go BT

@[simp] theorem nilck_bx (id o : Nat) : nilckD (.bx id o) = some (.bx id o) := (rfl)
@[simp] theorem mn_i (k : IntKind) (a b : Int) : mnD (.i k a) (.i k b) = some (.i k (if b < a then b else a)) := by simp [mnD]
@[simp] theorem mx_i (k : IntKind) (a b : Int) : mxD (.i k a) (.i k b) = some (.i k (if b > a then b else a)) := by simp [mxD]
@[simp] theorem bld_nil (z : List D) : bldV z [] = some z := (rfl)
theorem jn_eq {α : Type} (K : α) (X : α → Prop) : jn K X = X K := rfl
theorem jn_intro {α : Type} {K : α} {X : α → Prop} (P : α → Prop) (hK : P K) (hX : ∀ k, P k → X k) : jn K X := hX K hK

def eNdK (x : Nd) : D := .agg (eNd x)
def eRowK (x : Row) : D := .agg (eRow x)
theorem keyE_ndK : KeyE (.agg [.i, .i, .i]) eNdK := keyE_nd
theorem keyE_rowK : KeyE (.agg [.i, .i]) eRowK := keyE_row

/-! The entry of a key that is not there: 'mentV', 'estV'. -/
section
variable {α β : Type} [DecidableEq α] {kk : KK} {ek : α → D} {ev : β → D}
theorem posD_none (h : KeyE kk ek) (a : α) : ∀ (es : List (α × β)) (j : Nat), assoc a es = none → posD kk (ek a) (eMap ek ev es) j = some none
  | [], _, _ => rfl
  | (k, v) :: es, j, q => by
    simp only [assoc] at q
    split at q
    · cases q
    · rename_i e
      simp only [eMap, List.map_cons, posD, h a k, e, decide_false]
      exact posD_none h a es (j + 1) q

theorem mentV_new (h : KeyE kk ek) {a : α} (hk : isKey kk (ek a) = true) {z : D} {S : Store} {id : Nat} {es : List (α × β)} (hS : sget S id = some (.map (eMap ek ev es))) (ha : assoc a es = none) :
    mentV kk z S (.mp id) (ek a) = some (.tup [z, .i .i64 es.length], sset S id (.map (eMap ek ev es ++ [(ek a, z)]))) := by
  simp only [mentV, hk, if_true, hS, posD_none h a es 0 ha]
  simp [eMap]

theorem valD_last (v : D) (k : D) (u : D) : ∀ es : List (D × D), valD v es.length (es ++ [(k, u)]) = es ++ [(k, v)]
  | [] => rfl
  | e :: es => by simp [valD, valD_last v k u es]

theorem estV_new {S : Store} {id : Nat} {es : List (D × D)} {k u v : D} (hS : sget S id = some (.map (es ++ [(k, u)]))) :
    estV S (.mp id) (.i .i64 es.length) v = some (sset S id (.map (es ++ [(k, v)]))) := by
  simp only [estV, hS]
  rw [if_pos ⟨by omega, by simp; omega⟩]
  simp [valD_last]
end

/-- The maker's nodes and its map, in the variable ik; what pr names is not the maker's. -/
def MkI (ik : Nat) (pr : Nat → Prop) (M : List T) (S : Store) : Prop :=
  ∃ n o u, sget S ik = some (.box [.sl 3 n ((nds M).map eNd) o, u]) ∧ Liv S n M.length o ∧ (∀ t, o = .tok t → ¬ pr t) ∧
    ((u = .nilm ∧ M = []) ∨ ∃ iu, u = .mp iu ∧ ¬ pr iu ∧ sget S iu = some (.map (eMap eNdK eI (M.map fun s => (nd M s, code M s)))))

noncomputable def addT (M : List T) (t : T) : List T := match t with
  | .leaf _ => M
  | .node v l h => if .node v l h ∈ M then M else M ++ [.node v l h]

theorem assoc_nd {M : List T} (hM : Cl M) {v : Nat} {l h : T} (k : kids M (.node v l h)) : ∀ (N : List T), (∀ s, s ∈ N → s ∈ M) → assoc (nd M (.node v l h)) (N.map fun s => (nd M s, code M s)) = if T.node v l h ∈ N then some (code M (.node v l h)) else none
  | [], _ => by simp [assoc]
  | s :: N, hN => by
    simp only [List.map_cons, assoc, assoc_nd hM k N (fun x hx => hN x (List.mem_cons_of_mem _ hx))]
    by_cases e : T.node v l h = s
    · subst e; simp
    · have : nd M (.node v l h) ≠ nd M s := fun h' => e (nd_inj k (Cl_kids hM s (hN s (by simp))) h')
      simp [this, e]

theorem maps_snoc {M : List T} {t : T} (h : Cl (M ++ [t])) : (M ++ [t]).map (fun s => (nd (M ++ [t]) s, code (M ++ [t]) s)) = M.map (fun s => (nd M s, code M s)) ++ [(nd M t, (M.length : Int) + 2)] := by
  obtain ⟨h1, h2, h3⟩ := Cl_snoc.1 h
  rw [List.map_append]
  congr 1
  · apply List.map_congr_left
    intro s hs
    rw [nd_app [t] (Cl_kids h1 s hs), code_app [t] (sub_of h1 s hs)]
  · simp only [List.map_cons, List.map_nil, nd_app [t] h3]
    congr 2
    revert h2 h3
    cases t with
    | leaf _ => exact fun _ h => h.elim
    | node v l h =>
      intro h2 _
      simp only [code]
      rw [pos_new [] h2]

theorem deq_mp (i : Nat) : deq (.mp i) (.mp i) = true := by simp [deq]
theorem deq_nd (x : Nd) : deq (.agg (eNd x)) (.agg (eNd x)) = true := by simp [deq, deqL, eNd]

theorem v80 (ik : Nat) (pr : Nat → Prop) {M : List T} (hM : Cl M) (hl : M.length < 1000000) (v : Nat) (l h : T) (kl : sub M l) (kh : sub M h) (S : Store) (hI : MkI ik pr M S) (hmk : ¬ pr ik) (hpl : ∀ j, pr j → j < S.length) :
    ∃ S', call dp 80 [.bx ik 0, .i .i64 v, .i .i64 (code M l), .i .i64 (code M h)] S = some (.i .i64 (code (addT M (mk v l h)) (mk v l h)), S') ∧ MkI ik pr (addT M (mk v l h)) S' ∧ PresB ik S S' ∧ (∀ j e, pr j → sget S j = some e → sget S' j = some e) ∧ S.length ≤ S'.length := by
  let P : D → Store → Prop := fun r S' => r = .i .i64 (code (addT M (mk v l h)) (mk v l h)) ∧ MkI ik pr (addT M (mk v l h)) S' ∧ PresB ik S S' ∧ (∀ j e, pr j → sget S j = some e → sget S' j = some e) ∧ S.length ≤ S'.length
  obtain ⟨r, S', e, rfl, h1, h2, h3, h4⟩ := f80 (.bx ik 0) (.i .i64 v) (.i .i64 (code M l)) (.i .i64 (code M h)) S P (by
    simp only [s80, bin_eql]
    by_cases e : l = h
    · subst e
      simp
      have hm : mk v l l = l := by simp [mk]
      have ha : addT M l = M := by
        revert kl
        cases l with
        | leaf _ => intro _; rfl
        | node _ _ _ => intro k; simp only [addT]; exact if_pos k
      exact ⟨by rw [hm, ha], by rw [hm, ha]; exact hI, PresB.refl _ _, fun _ _ _ e => e, Nat.le_refl _⟩
    · have hne : ¬ code M l = code M h := fun e' => e (code_inj kl kh e')
      have hm : mk v l h = .node v l h := by simp [mk, e]
      have kk : kids M (.node v l h) := ⟨kl, kh⟩
      obtain ⟨n, o, u, j1, j2, jp, j3⟩ := hI
      have gk := sget_lt j1
      obtain ⟨c, hbin, hcu⟩ : ∃ c, binD .eql .map u .nilm = some (.b c) ∧ (c = true ↔ u = .nilm) := by
        rcases j3 with ⟨rfl, _⟩ | ⟨iu, rfl, _⟩
        · exact ⟨true, rfl, by simp⟩
        · exact ⟨false, rfl, by simp⟩
      simp [-OX_b, hne, bldV, j1, show ¬ ik = S.length by omega, hbin]
      rw [show [D.i .i64 (v : Int), .i .i64 (code M l), .i .i64 (code M h)] = eNd (nd M (.node v l h)) from rfl]
      refine jn_intro (fun (k : D → D → D → Store → Prop) => ∀ (y : D) (iu : Nat) (S15 : Store), sget S15 S.length = some (.box (eNd (nd M (.node v l h)))) → sget S15 ik = some (.box [.sl 3 n ((nds M).map eNd) o, .mp iu]) → Liv S15 n M.length o → ¬ pr iu → iu ≠ ik → iu ≠ S.length →
        sget S15 iu = some (.map (eMap eNdK eI (M.map fun s => (nd M s, code M s)))) → PresB ik S S15 → (∀ j e, pr j → sget S j = some e → sget S15 j = some e) → S.length ≤ S15.length → k (.bx ik 0) (.bx S.length 0) y S15) ?_ ?_
      · intro y iu S15 b0 b1 b2 b3 b3k b3s b4 b5 b6 b7
        have hlk := lkD'_mp keyE_ndK (a := nd M (.node v l h)) (isKey_nd _) b4 true (.i .i64 0)
        rw [assoc_nd hM kk M (fun _ h => h)] at hlk
        simp only [eNdK] at hlk
        simp [b0, b1, hlk, jn_eq]
        by_cases hin : T.node v l h ∈ M
        · simp [hin]
          have ha : addT M (mk v l h) = M := by rw [hm]; simp only [addT]; exact if_pos hin
          exact ⟨by rw [ha, hm]; rfl, by rw [ha]; exact ⟨n, o, _, b1, b2, jp, .inr ⟨iu, rfl, b3, b4⟩⟩, b5, b6, b7⟩
        · have ha : addT M (mk v l h) = M ++ [.node v l h] := by rw [hm]; simp only [addT]; exact if_neg hin
          have hc : Cl (M ++ [.node v l h]) := Cl_snoc.2 ⟨hM, hin, kk⟩
          have hlk : ((nds M).map eNd).length = M.length := by rw [List.length_map, nds_len]
          obtain ⟨t', S4, q4, l4, p4, m4, z4, zt, k4⟩ := app_liv (k := 3) (n' := false) (xs := (nds M).map eNd) (ys := [eNd (nd M (.node v l h))]) (o' := .ro) (by rw [hlk]; exact b2) (by rw [hlk]; simp [maxLenD]; omega) (by simp)
          have c0 := p4 _ _ b0
          have c1 := p4 _ _ b1
          have c4 := m4 _ _ b4
          have c6 : ∀ j e, pr j → sget S j = some e → sget S4 j = some e := fun j e hj he => k4 _ _ (b6 j e hj he) (fun t ht hjt => jp t ht (hjt ▸ hj))
          have hX : (nds M).map eNd ++ [eNd (nd M (.node v l h))] = (nds (M ++ [.node v l h])).map eNd := by rw [nds_snoc hc, List.map_append]; rfl
          rw [hX] at q4
          simp [hin, b0, b1, q4, c0, c1, nds_len]
          rw [wrap64 ⟨by omega, by omega⟩]
          have s1 : sget (sset S4 ik (.box [.sl 3 false ((nds (M ++ [.node v l h])).map eNd) (.tok t'), .mp iu])) ik = _ := sget_sset _ (sget_lt c1)
          have s0 : sget (sset S4 ik (.box [.sl 3 false ((nds (M ++ [.node v l h])).map eNd) (.tok t'), .mp iu])) S.length = _ := (sget_sset_ne _ (by omega)).trans c0
          have su : sget (sset S4 ik (.box [.sl 3 false ((nds (M ++ [.node v l h])).map eNd) (.tok t'), .mp iu])) iu = _ := (sget_sset_ne _ b3k).trans c4
          have sm : ∀ j e, pr j → sget S j = some e → sget (sset S4 ik (.box [.sl 3 false ((nds (M ++ [.node v l h])).map eNd) (.tok t'), .mp iu])) j = some e := fun j e hj he => (sget_sset_ne _ (by rintro rfl; exact hmk hj)).trans (c6 j e hj he)
          have st : sget (sset S4 ik (.box [.sl 3 false ((nds (M ++ [.node v l h])).map eNd) (.tok t'), .mp iu])) t' = _ := (sget_sset_ne _ (by rintro rfl; rw [c1] at l4; cases l4)).trans l4
          have P5 : PresB ik S (sset S4 ik (.box [.sl 3 false ((nds (M ++ [.node v l h])).map eNd) (.tok t'), .mp iu])) := fun id cs hid e => (sget_sset_ne _ hid).trans (p4 _ _ (b5 _ _ hid e))
          have z5 : (sset S4 ik (.box [.sl 3 false ((nds (M ++ [.node v l h])).map eNd) (.tok t'), .mp iu])).length = S15.length + 1 := by rw [sset_len]; exact z4
          simp only [s0]
          generalize sset S4 ik (.box [.sl 3 false ((nds (M ++ [.node v l h])).map eNd) (.tok t'), .mp iu]) = S5 at *
          have hass : assoc (nd M (.node v l h)) (M.map fun s => (nd M s, code M s)) = none := by rw [assoc_nd hM kk M (fun _ h => h), if_neg hin]
          have hme := mentV_new keyE_ndK (ev := eI) (z := .i .i64 0) (isKey_nd _) su hass
          simp only [eNdK] at hme
          have hml : (eMap eNdK eI (M.map fun s => (nd M s, code M s))).length = M.length := by simp [eMap]
          have hes : estV (sset S5 iu (Ent.map (eMap eNdK eI (M.map fun s => (nd M s, code M s)) ++ [(D.agg (eNd (nd M (.node v l h))), D.i .i64 0)]))) (.mp iu) (.i .i64 M.length) (.i .i64 ((M.length : Int) + 2)) =
              some (sset (sset S5 iu (Ent.map (eMap eNdK eI (M.map fun s => (nd M s, code M s)) ++ [(D.agg (eNd (nd M (.node v l h))), D.i .i64 0)]))) iu (Ent.map (eMap eNdK eI (M.map fun s => (nd M s, code M s)) ++ [(D.agg (eNd (nd M (.node v l h))), D.i .i64 ((M.length : Int) + 2))]))) := by
            have := estV_new (v := .i .i64 ((M.length : Int) + 2)) (sget_sset (Ent.map (eMap eNdK eI (M.map fun s => (nd M s, code M s)) ++ [(.agg (eNd (nd M (.node v l h))), .i .i64 0)])) (sget_lt su))
            rwa [hml] at this
          simp only [ldE_box, rdK_nd, OX_some, deq_self, true_and]
          rw [show (M.map fun s => (nd M s, code M s)).length = M.length by simp] at hme
          rw [hme]
          simp only [OX_some, ext_eq, List.getElem?_cons_succ, List.getElem?_cons_zero]
          rw [hes]
          simp only [OX_some]
          have hX2 : eMap eNdK eI (M.map fun s => (nd M s, code M s)) ++ [(D.agg (eNd (nd M (.node v l h))), D.i .i64 ((M.length : Int) + 2))] = eMap eNdK eI ((M ++ [T.node v l h]).map fun s => (nd (M ++ [T.node v l h]) s, code (M ++ [T.node v l h]) s)) := by
            rw [maps_snoc hc]; simp [eMap, eNdK, eI]
          rw [hX2]
          have lu := sget_lt su
          refine ⟨?_, ?_, ?_, ?_, ?_⟩
          · rw [ha, hm]
            simp only [code]
            rw [pos_new [] hin]
          · rw [ha]
            exact ⟨false, .tok t', .mp iu, (sget_sset_ne _ (Ne.symm b3k)).trans ((sget_sset_ne _ (Ne.symm b3k)).trans s1),
              .inr ⟨rfl, t', rfl, (sget_sset_ne _ (by rintro rfl; rw [su] at st; cases st)).trans ((sget_sset_ne _ (by rintro rfl; rw [su] at st; cases st)).trans st)⟩,
              (fun t ht hp => by injection ht with ht; subst ht; have := hpl _ hp; omega), .inr ⟨iu, rfl, b3, by rw [sget_sset _ (by rw [sset_len]; exact lu)]⟩⟩
          · intro id cs hid e
            have e5 := P5 _ _ hid e
            have : id ≠ iu := by rintro rfl; rw [su] at e5; cases e5
            exact (sget_sset_ne _ this).trans ((sget_sset_ne _ this).trans e5)
          · intro j e hj he
            have : j ≠ iu := by rintro rfl; exact b3 hj
            exact (sget_sset_ne _ this).trans ((sget_sset_ne _ this).trans (sm j e hj he))
          · rw [sset_len, sset_len]; omega
      · intro k hK
        rcases j3 with ⟨rfl, rfl⟩ | ⟨iu, rfl, j4, j5⟩
        · have hc : c = true := hcu.2 rfl
          subst hc
          simp [-sset_cons, show ¬ ik = S.length + 1 by omega]
          have S15 : ∀ j, j ≠ ik → j ≠ S.length → j ≠ S.length + 1 → sget (sset (Ent.map [] :: Ent.box (eNd (nd [] (.node v l h))) :: S) ik (.box [.sl 3 n ((nds []).map eNd) o, .mp (S.length + 1)])) j = sget S j := by
            intro j h1 h2 h3
            rw [sget_sset_ne _ h1]
            simp [h2, h3]
          refine hK _ (S.length + 1) _ ?_ ?_ ?_ (fun hp => by have := hpl _ hp; omega) (by omega) (by omega) ?_ ?_ ?_ (by rw [sset_len]; simp; omega)
          · rw [sget_sset_ne _ (by omega)]; simp
          · exact sget_sset _ (by simp; omega)
          · rcases j2 with j2 | ⟨l1, t, l2, l3⟩
            · exact .inl j2
            · exact .inr ⟨l1, t, l2, by rw [S15 t (by rintro rfl; rw [j1] at l3; cases l3) (by have := sget_lt l3; omega) (by have := sget_lt l3; omega)]; exact l3⟩
          · rw [sget_sset_ne _ (by omega)]; simp [eMap]
          · intro id cs hid e
            have := sget_lt e
            rw [S15 id hid (by omega) (by omega)]; exact e
          · intro j e hj he
            have := sget_lt he
            rw [S15 j (by rintro rfl; exact hmk hj) (by omega) (by omega)]; exact he
        · have hc : c = false := by rw [← Bool.not_eq_true, hcu]; intro h; cases h
          subst hc
          simp
          have giu := sget_lt j5
          exact hK _ iu _ (by simp) (sget_push j1) (j2.push _) j4 (by rintro rfl; rw [j1] at j5; cases j5) (by omega) (sget_push j5) (PresB.push _ _ _) (fun _ _ _ he => sget_push he) (by simp))
  exact ⟨S', e, h1, h2, h3, h4⟩

end Go.Proofs.YtjlmeikcfdanmaaGreatDoor.DE.V
