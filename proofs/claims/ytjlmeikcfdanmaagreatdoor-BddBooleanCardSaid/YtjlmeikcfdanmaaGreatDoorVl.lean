/-
  WHAT THE FUNCTIONS ANSWER: Restrict.
-/
import Derived.Test.YtjlmeikcfdanmaaGreatDoorVk
namespace Go.Proofs.YtjlmeikcfdanmaaGreatDoor.DE.V
open Go BT

/-- Restriction by the index of a row, or by none. -/
noncomputable def resZ (fx : Int) (b : Bool) : T → T
  | .leaf c => .leaf c
  | .node w l h => if (w : Int) = fx then (if b then resZ fx b h else resZ fx b l) else mk w (resZ fx b l) (resZ fx b h)

theorem resZ_nat (v : Nat) (b : Bool) : ∀ t, resZ v b t = resT v b t
  | .leaf _ => rfl
  | .node w l h => by
    simp only [resZ, resT, resZ_nat v b l, resZ_nat v b h]
    by_cases e : w = v
    · subst e; simp
    · have : ¬ (w : Int) = v := by omega
      simp [e, this]
theorem resZ_neg {n : Nat} {fx : Int} (b : Bool) (hf : fx < 0) : ∀ {t : T}, Wf n t → resZ fx b t = t
  | .leaf _, _ => rfl
  | .node w l h, k => by
    have : ¬ (w : Int) = fx := by omega
    simp only [resZ, if_neg this, resZ_neg b hf k.2.2.2.2.1, resZ_neg b hf k.2.2.2.2.2, mk, if_neg k.2.2.2.1]

theorem Cl_take {L : List T} (hL : Cl L) (k : Nat) : Cl (L.take k) := Cl_pre (M := L.drop k) (by rwa [List.take_append_drop])

theorem refs_get {L : List T} (k : Nat) (f : T → Int) (h0 : f (.leaf false) = 0) (h1 : f (.leaf true) = 1) : ∀ {s : T}, sub (L.take k) s → ([0, 1] ++ (L.take k).map f)[(code L s).toNat]? = some (f s)
  | .leaf b, _ => by cases b <;> simp [code, h0, h1]
  | .node v l h, hs => by
    have e : code L (.node v l h) = code (L.take k) (.node v l h) := by
      have := code_app (L.drop k) hs
      rwa [List.take_append_drop] at this
    have hp : (code L (.node v l h)).toNat = pos (L.take k) (.node v l h) + 2 := by rw [e]; simp only [code]; omega
    rw [hp]
    have hs' : T.node v l h ∈ L.take k := hs
    simp only [List.cons_append, List.nil_append, List.getElem?_cons_succ]
    rw [List.getElem?_map, pos_get hs']
    rfl

theorem code_of_take {L : List T} {k : Nat} {s : T} (hs : sub (L.take k) s) : 0 ≤ code L s := code_nonneg L s

theorem iaD_ints {nl : Bool} {l : List Int} {o : Own} {n m : Int} (h0 : 0 ≤ n) (h : l[n.toNat]? = some m) : iaD 1 (eInts nl l o) (.i .i64 n) = some (.el [.i .i64 m] 0) := by
  simp [eInts, iaD, h, h0]

open Classical in
theorem v38 (nl nl' : Bool) (ord : List Row) (ns : List Nd) (root : Int) (r : Row) (b : Bool) (t : T) (hv : VT ord ns root t) (hn : nl = true → ord = []) :
    ∃ n : Bool, (n = true → post (resZ (ixOf r ord) b t) [] = []) ∧ isoCall (call dp) 38 [eB nl nl' ord ns root, .agg (eRow r), .b b] = some (eB nl n ord (nds (post (resZ (ixOf r ord) b t) [])) (code (post (resZ (ixOf r ord) b t) []) (resZ (ixOf r ord) b t))) := by
  have hvb := VB_VT.2 ⟨t, hv⟩
  obtain ⟨ho, wt, rfl, rfl, hz⟩ := hv
  have e33 := v33 nl nl' ord (nds (post t [])) (code (post t []) t) hn (by rw [nds_len]; unfold Bd; omega) (by unfold Bd; omega)
  simp only [hvb, decide_true, eB] at e33
  have e50 := v50 nl ord r (by unfold Bd; omega)
  obtain ⟨cL, sL, wL⟩ := post_nil t
  generalize post t [] = L at *
  let Po : D → Prop := fun d => ∃ n : Bool, (n = true → post (resZ (ixOf r ord) b t) [] = []) ∧ d = eB nl n ord (nds (post (resZ (ixOf r ord) b t) [])) (code (post (resZ (ixOf r ord) b t) []) (resZ (ixOf r ord) b t))
  obtain ⟨d, hd, n, h1, rfl⟩ := j38 (eB nl nl' ord (nds L) (code L t)) (.agg (eRow r)) (.b b) Po (by simp [noRefL]) (by rintro _ ⟨n, _, rfl⟩; simp) (by
    simp [s38, e33, e50]
    rw [show cellsV 1 false [D.i .i64 0, .i .i64 1] = some [[.i .i64 0], [.i .i64 1]] from rfl]
    simp [bslO, nds_len]
    generalize hfx : ixOf r ord = fx at *
    let J : Nat → List D → Store → Prop := fun q fr S => ∃ k M tk a27, k + q = L.length ∧ sget S 0 = some (.box [eRows nl ord, eNds nl' (nds L), .i .i64 (code L t)]) ∧ sget S 2 = some (.box [.sl 2 true [] .ro, .sl 3 true [] .ro, .i .i64 0]) ∧
      MkI 3 (fun j => j = tk) M S ∧ Cl M ∧ M.length ≤ k ∧ sget S tk = some (.tok true) ∧ (∀ s, s ∈ L.take k → sub M (resZ fx b s)) ∧
      fr = mkf 66 [(2, .b b), (3, .bx 0 0), (6, .bx 2 0), (7, .i .i64 fx), (8, .bx 3 0), (9, eInts false ([0, 1] ++ (L.take k).map fun s => code M (resZ fx b s)) (.tok tk)), (24, eNds nl' (nds L)), (25, .i .i64 L.length), (26, .i .i64 k), (27, a27)]
    refine W_loop J ?_ L.length _ _ ⟨0, [], 4, _, by simp, rfl, rfl, ⟨true, .ro, .nilm, rfl, .inl ⟨rfl, rfl, rfl⟩, (fun _ h => by cases h), .inl ⟨rfl, rfl⟩⟩, Cl_nil, by simp, rfl, by simp, rfl⟩
    rintro q fr S ⟨k, M, tk, a27, hk, g0, g2, hI, hM, hMk, gt, hsub, rfl⟩
    rw [← wp_W, e38_0]
    have f0 : ∀ N, code N (resZ fx b (.leaf false)) = 0 := fun _ => rfl
    have f1 : ∀ N, code N (resZ fx b (.leaf true)) = 1 := fun _ => rfl
    by_cases hkl : k < L.length
    · obtain ⟨x, hx⟩ : ∃ x, L[k]? = some x := ⟨_, List.getElem?_eq_getElem (by omega)⟩
      have hxL := List.mem_of_getElem? hx
      have hxn : (nds L)[k]? = some (nd L x) := by simp [nds, hx]
      have hkid : kids (L.take k) x := by
        have := Cl_take cL (k + 1)
        rw [take_snoc hx] at this
        exact (Cl_snoc.1 this).2.2
      have hwx := wL _ wt x hxL
      have hxR : resZ fx b x = resZ fx b x := rfl
      cases x with
      | leaf _ => exact hkid.elim
      | node v l h =>
        have l0 := sget_lt g0
        have r1 := refs_get k (fun s => code M (resZ fx b s)) (f0 M) (f1 M) hkid.1
        have r2 := refs_get k (fun s => code M (resZ fx b s)) (f0 M) (f1 M) hkid.2
        have i1 := iaD_ints (nl := false) (o := .tok tk) (code_nonneg L l) r1
        have i2 := iaD_ints (nl := false) (o := .tok tk) (code_nonneg L h) r2
        have sR : ∀ {s : T}, sub (L.take k) s → sub M (resZ fx b s) := by
          intro s hs
          cases s with
          | leaf _ => trivial
          | node _ _ _ => exact hsub _ hs
        have sl := sR hkid.1
        have sh := sR hkid.2
        simp only [List.cons_append, List.nil_append] at i1 i2
        simp [-OX_b, -List.map_take, s38_0, hkl, iaD_nds _ hxn, nd, i1, i2]
        have hI' := hI
        refine jn_intro (fun (kk : D → D → D → D → D → D → D → D → D → D → D → D → D → Store → Prop) => ∀ (l' h' : T) (y : D), sub M l' → sub M h' → mk v l' h' = resZ fx b (.node v l h) →
          kk (.b b) (.bx 0 0) (.bx 2 0) (.i .i64 fx) (.bx 3 0) (eInts false (0 :: 1 :: (L.take k).map fun s => code M (resZ fx b s)) (.tok tk)) (.bx S.length 0) (.i .i64 (code M l')) (.i .i64 (code M h')) (eNds nl' (nds L)) (.i .i64 L.length) (.i .i64 k) y (Ent.box (eNd (v, code L l, code L h)) :: S)) ?_ ?_
        · intro l' h' y kl kh hmk
          have hIp : MkI 3 (fun j => j = tk) M (Ent.box (eNd ((v : Int), code L l, code L h)) :: S) := by
            obtain ⟨n, o, u, a, c, d, e⟩ := hI
            refine ⟨n, o, u, sget_push a, c.push _, d, ?_⟩
            rcases e with e | ⟨iu, e1, e2, e3⟩
            · exact .inl e
            · exact .inr ⟨iu, e1, e2, sget_push e3⟩
          have ltk := sget_lt gt
          obtain ⟨S3, q3, I3, P3, T3, L3⟩ := v80 3 (fun j => j = tk) hM (by omega) v l' h' kl kh _ hIp (by
            rintro rfl
            obtain ⟨_, _, _, a, _⟩ := hI
            rw [gt] at a; cases a) (fun j hj => by have hj' : j = tk := hj; simp; omega)
          rw [hmk] at q3 I3
          have t3 := T3 tk _ rfl (sget_push gt)
          obtain ⟨N3, c3, z3⟩ := addT_ext hM (v := v) kl kh
          have s3 := sub_addT (v := v) (h := h') kl
          rw [hmk] at N3 c3 z3 s3
          generalize addT M (resZ fx b (.node v l h)) = M3 at *
          obtain ⟨N3, rfl⟩ := N3
          simp [-List.map_take, q3]
          have hlen : ((0 :: 1 :: (L.take k).map fun s => code M (resZ fx b s)).map fun n => [D.i .i64 n]).length = k + 2 := by simp; omega
          obtain ⟨t', S4, q4, l4, p4, m4, z4, zt, k4⟩ := app_liv (k := 1) (nl := false) (n' := false) (xs := (0 :: 1 :: (L.take k).map fun s => code M (resZ fx b s)).map fun n => [D.i .i64 n]) (ys := [[.i .i64 (code (M ++ N3) (resZ fx b (.node v l h)))]]) (o := .tok tk) (o' := .ro) (S := S3)
            (.inr ⟨rfl, tk, rfl, t3⟩) (by rw [hlen]; simp [maxLenD]; omega) (by simp)
          simp only [eInts]
          rw [q4]
          simp only [OX_some, wrapS (show Bd k by unfold Bd; omega)]
          have hmap : (0 :: 1 :: (L.take k).map fun s => code M (resZ fx b s)).map (fun n => [D.i .i64 n]) ++ [[D.i .i64 (code (M ++ N3) (resZ fx b (.node v l h)))]] = ([0, 1] ++ (L.take (k + 1)).map fun s => code (M ++ N3) (resZ fx b s)).map fun n => [D.i .i64 n] := by
            rw [take_snoc hx]
            have : (L.take k).map (fun s => code (M ++ N3) (resZ fx b s)) = (L.take k).map (fun s => code M (resZ fx b s)) := by
              apply List.map_congr_left
              intro s hs
              exact code_app N3 (hsub s hs)
            simp only [List.map_append, List.map_cons, List.map_nil, List.cons_append, List.nil_append, this]
          rw [hmap]
          have G : ∀ cs j, j ≠ 3 → sget S j = some (.box cs) → sget S4 j = some (.box cs) := fun cs j hj he => p4 _ _ (P3 _ _ hj (sget_push he))
          refine ⟨q - 1, by omega, k + 1, M ++ N3, t', _, by omega, G _ 0 (by omega) g0, G _ 2 (by omega) g2, ?_, c3, by omega, l4, ?_, rfl⟩
          · obtain ⟨n, o, u, a, c, d, e⟩ := I3
            refine ⟨n, o, u, p4 _ _ a, ?_, ?_, ?_⟩
            · rcases c with c | ⟨c1, tm, c2, c3⟩
              · exact .inl c
              · exact .inr ⟨c1, tm, c2, k4 _ _ c3 (fun t0 h0 h1 => by injection h0 with h0; exact d tm c2 (h1.trans h0.symm))⟩
            · intro tm ht hp
              rcases c with ⟨_, _, c⟩ | ⟨c1, tm', c2, c3⟩
              · rw [c] at ht; cases ht
              · have := sget_lt c3
                rw [c2] at ht; injection ht with ht
                have hp' : tm = t' := hp
                omega
            · rcases e with e | ⟨iu, e1, e2, e3⟩
              · exact .inl e
              · exact .inr ⟨iu, e1, fun hp => by have := sget_lt e3; have hp' : iu = t' := hp; omega, m4 _ _ e3⟩
          · intro s hs
            rw [take_snoc hx] at hs
            rcases List.mem_append.1 hs with hs | hs
            · exact sub_app N3 (hsub s hs)
            · rw [List.mem_singleton.1 hs]; exact s3
        · intro kk hK
          have mkk : ∀ x, mk v x x = x := fun x => by simp [mk]
          by_cases hvf : (v : Int) = fx
          · rw [if_pos hvf]
            cases b with
            | true => rw [if_pos rfl]; exact hK _ _ _ sh sh (by rw [mkk]; simp [resZ, hvf])
            | false => rw [if_neg (by simp)]; exact hK _ _ _ sl sl (by rw [mkk]; simp [resZ, hvf])
          · rw [if_neg hvf]
            exact hK _ _ _ sl sh (by simp [resZ, hvf])
    · have hk' : L.take k = L := List.take_of_length_le (by omega)
      rw [hk'] at hsub
      have sR : sub M (resZ fx b t) := by
        revert sL
        cases t with
        | leaf _ => intro _; trivial
        | node _ _ _ => intro h; exact hsub _ h
      have r1 := refs_get k (fun s => code M (resZ fx b s)) (f0 M) (f1 M) (s := t) (by rw [hk']; exact sL)
      have i1 := iaD_ints (nl := false) (o := .tok tk) (code_nonneg L t) r1
      simp only [List.cons_append, List.nil_append] at i1
      obtain ⟨n1, o1, u1, j1, j2, _⟩ := hI
      obtain ⟨n, hn2, e72⟩ := v72 nl n1 ord hM (by omega) (resZ fx b t) sR hn (by simp [maxLenD]; omega)
      rw [isoCall_strip] at e72
      have e72' := isoCall_strip (call dp) 72 [eRows nl ord, .sl 3 n1 ((nds M).map eNd) o1, .i .i64 (code M (resZ fx b t))]
      rw [show stripL [eRows nl ord, .sl 3 n1 ((nds M).map eNd) o1, .i .i64 (code M (resZ fx b t))] = stripL [eRows nl ord, eNds n1 (nds M), .i .i64 (code M (resZ fx b t))] from rfl, e72] at e72'
      simp [-List.map_take, s38_0, hkl, e38_r0, s38_r0, g0, j1, i1, e72', g2]
      rw [sget_sset _ (sget_lt g2)]
      simp
      exact ⟨n, by rw [hfx]; exact hn2, by rw [hfx]; rfl⟩)
  exact ⟨n, h1, hd⟩

end Go.Proofs.YtjlmeikcfdanmaaGreatDoor.DE.V
