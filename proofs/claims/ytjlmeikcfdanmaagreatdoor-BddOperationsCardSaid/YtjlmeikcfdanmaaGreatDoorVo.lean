/-
  THE LAW BddOperations ON DATA.
-/
import Derived.Test.YtjlmeikcfdanmaaGreatDoorVp
import Derived.Test.YtjlmeikcfdanmaaGreatDoorVf
namespace Go.Proofs.YtjlmeikcfdanmaaGreatDoor.DE.V
open Go BT
set_option maxRecDepth 20000

open Classical in
theorem sameT (na na' nb nb' : Bool) (o : List Row) (t s : T) (h7 : o.length ≤ 7) (ws : Wf o.length s) : isoCall (call dp) 17 [eT na na' o t, eT nb nb' o s] = some (.b (decide (t = s))) := by
  have z2 := small h7 ws
  have e := v17 na na' nb nb' o o (nds (post t [])) (nds (post s [])) (code (post t []) t) (code (post s []) s) (by rw [nds_len]; unfold Bd; omega) (by unfold Bd; omega)
  refine e.trans ?_
  congr 2
  rw [decide_eq_decide]
  constructor
  · rintro ⟨_, h2, h1⟩
    have := nds_inj (post_nil t).1 (post_nil s).1 h2
    rw [← this] at h1
    exact code_inj (post_nil t).2.1 (this ▸ (post_nil s).2.1) h1
  · rintro rfl
    exact ⟨rfl, rfl, rfl⟩

theorem sameZ : isoCall (call dp) 17 [zB, zB] = some (.b true) := by
  have := v17 true true true true [] [] [] [] 0 0 (by unfold Bd; simp) (by unfold Bd; simp)
  simp only [and_self, decide_true] at this
  exact this

open Classical in
theorem v23_bad (nl nl' : Bool) (ord : List Row) (ns : List Nd) (root : Int) (hn : nl = true → ord = []) (hb : Bd (ns.length + 2)) (hb' : Bd ord.length) (hv : ¬ VB ord ns root) :
    isoCall (call dp) 23 [eB nl nl' ord ns root] = some zB := by
  have e33 := v33 nl nl' ord ns root hn hb hb'
  simp only [hv, decide_false, eB] at e33
  apply i23 _ _ (by simp [noRefL]) (by simp [zB])
  simp [s23, e33]
  rfl

open Classical in
theorem law3 (n1 m1 : Bool) (o1 : List Row) (x1 : List Nd) (r1 : Int) (n2 m2 : Bool) (o2 : List Row) (x2 : List Nd) (r2 : Int) (n3 : Bool) (o3 : List Row) (id : Row) (val : Bool)
    (g1 : n1 = true → o1 = []) (_ : m1 = true → x1 = []) (_ : ∀ a ∈ o1, okRow a) (_ : ∀ a ∈ x1, okNd64 a) (_ : in64 r1)
    (g2 : n2 = true → o2 = []) (_ : m2 = true → x2 = []) (_ : ∀ a ∈ o2, okRow a) (_ : ∀ a ∈ x2, okNd64 a) (_ : in64 r2)
    (g3 : n3 = true → o3 = []) (_ : ∀ a ∈ o3, okRow a) (_ : okRow id) :
    ∃ S', call dp 3 [eB n1 m1 o1 x1 r1, eB n2 m2 o2 x2 r2, eRows n3 o3, .agg (eRow id), .b val] [] = some (.b true, S') := by
  obtain ⟨r, S', e, rfl⟩ := f3 (eB n1 m1 o1 x1 r1) (eB n2 m2 o2 x2 r2) (eRows n3 o3) (.agg (eRow id)) (.b val) [] (fun d _ => d = .b true) (by
    have a1 := v11 n1 m1 o1 x1 r1
    have a2 := v11 n2 m2 o2 x2 r2
    have a3 := v12 n3 o3
    simp only [eB] at a1 a2
    by_cases b1 : o1.length ≤ 7 ∧ x1.length ≤ 40
    case neg =>
      have : (decide (o1.length ≤ 7) && decide (x1.length ≤ 40)) = false := by rw [← Bool.decide_and]; exact decide_eq_false b1
      rw [this] at a1
      simp [-OX_b, s3, v10, a1]
    by_cases b2 : o2.length ≤ 7 ∧ x2.length ≤ 40
    case neg =>
      have : (decide (o2.length ≤ 7) && decide (x2.length ≤ 40)) = false := by rw [← Bool.decide_and]; exact decide_eq_false b2
      rw [this] at a2
      simp only [b1, decide_true, Bool.and_true] at a1
      simp [-OX_b, s3, v10, a1, a2]
    by_cases b3 : o3.length ≤ 7
    case neg =>
      simp only [b1, b2, b3, decide_true, decide_false, Bool.and_true] at a1 a2 a3
      simp [-OX_b, s3, v10, a1, a2, a3]
    simp only [b1, b2, b3, decide_true, Bool.and_true] at a1 a2 a3
    obtain ⟨b1, c1⟩ := b1
    obtain ⟨b2, c2⟩ := b2
    have T0 := v13 n3 o3 val g3 (by unfold Bd; omega)
    have V := v14 n3 o3 id g3 (by unfold Bd; omega)
    have IX := v15 n3 o3 id (by unfold Bd; omega)
    have OR := v16 n3 o3 (by unfold Bd; omega)
    let P : (D → D → D → D → D → Store → Prop) → Prop := fun k => ∀ (y1 y2 y3 : D) (e1 e2 e3 : Ent), k (.bx 0 0) (.bx 1 0) y1 y2 y3 [e1, e2, e3, .box [eRows n2 o2, eNds m2 x2, .i .i64 r2], .box [eRows n1 o1, eNds m1 x1, .i .i64 r1]]
    have tail : ∀ (K : D → D → D → D → D → Store → Prop) (X : (D → D → D → D → D → Store → Prop) → Prop), (∀ k, P k → X k) → P K → jn K X := fun K X h1 h2 => jn_intro P h2 h1
    obtain ⟨ta, tb, to, tx, tr, Te⟩ : ∃ ta tb to tx tr, isoCall (call dp) 13 [eRows n3 o3, .b val] = some (eB ta tb to tx tr) := by
      rw [T0]; split
      · exact ⟨_, _, _, _, _, rfl⟩
      · exact ⟨_, _, _, _, _, rfl⟩
    obtain ⟨va, vb, vo, vx, vr, ve, Ve⟩ : ∃ va vb vo vx vr ve, isoCall (call dp) 14 [eRows n3 o3, .agg (eRow id)] = some (.tup [eB va vb vo vx vr, .i .i64 ve]) := by
      rw [V]; split
      · split
        · exact ⟨_, _, _, _, _, _, rfl⟩
        · exact ⟨_, _, _, _, _, _, rfl⟩
      · exact ⟨_, _, _, _, _, _, rfl⟩
    have T1 := Option.some.inj (Te.symm.trans T0)
    have V1 := Option.some.inj (Ve.symm.trans V)
    have hzz : D.agg [.sl 2 true [] .ro, .sl 3 true [] .ro, .i .i64 0] = D.agg [eRows true [], eNds true [], .i .i64 0] := rfl
    have hZ := sameZ
    simp only [zB, eB] at Te Ve hZ
    obtain ⟨oc, hoc⟩ : ∃ oc, oc = decide (OrdOk o3 ∧ o3.length ≤ 4096) := ⟨_, rfl⟩
    rw [← hoc] at OR
    simp [-OX_b, s3, v10, a1, a2, a3, Te, Ve, IX, OR]
    refine tail _ _ ?_ ?_
    · intro k hk
      by_cases ho : OrdOk o3 ∧ o3.length ≤ 4096
      case neg =>
        rw [if_neg ho] at T1 V1
        rw [decide_eq_false ho] at hoc
        subst hoc
        simp only [D.tup.injEq, List.cons.injEq, D.i.injEq, and_true, true_and] at V1
        obtain ⟨V1, rfl⟩ := V1
        simp only [zB, eB] at T1 V1
        rw [T1, V1]
        simp [-OX_b, hzz, hZ]
        exact hk _ _ _ _ _ _
      rw [if_pos ho] at T1 V1
      rw [decide_eq_true ho] at hoc
      subst hoc
      have hd0 : Dep o3.length 0 (fun _ => val) := fun _ _ _ => rfl
      have e19 := v19 o3.length b3 val
      obtain ⟨m, e18⟩ := v18 n3 false o3 b3 _ hd0
      have htr : treeOf o3.length (fun _ => val) = .leaf val := canon' (treeOf_wf _ _) (n := o3.length) trivial fun a => by rw [treeOf_fn hd0]; rfl
      rw [htr] at e18
      have e17 := sameT n3 true n3 m o3 (.leaf val) (.leaf val) b3 trivial
      simp only [decide_true] at e17
      have hT : eB n3 true o3 [] (if val = true then 1 else 0) = eT n3 true o3 (.leaf val) := by cases val <;> rfl
      rw [hT] at T1
      by_cases hix : ixOf id o3 < 0
      · rw [if_pos hix] at V1
        simp only [D.tup.injEq, List.cons.injEq, D.i.injEq, and_true, true_and] at V1
        obtain ⟨V1, rfl⟩ := V1
        simp only [zB, eB, eT] at T1 V1 e17 e18
        rw [T1, V1]
        simp [-OX_b, hzz, hZ, e19, e18, e17, hix]
        exact hk _ _ _ _ _ _
      · rw [if_neg hix] at V1
        simp only [D.tup.injEq, List.cons.injEq, D.i.injEq, and_true, true_and] at V1
        obtain ⟨V1, rfl⟩ := V1
        obtain ⟨hlt, _⟩ := ixOf_lt id o3
        obtain ⟨i, hi⟩ : ∃ i : Nat, ixOf id o3 = i := ⟨(ixOf id o3).toNat, by omega⟩
        have hin : i < o3.length := by omega
        rw [hi] at V1
        have hvT : eB n3 false o3 [((i : Int), 0, 1)] 2 = eT n3 false o3 (varT i) := by
          simp [eT, varT, post, nds, nd, code, pos]
        rw [hvT] at V1
        have hd1 : Dep o3.length 0 (fun s => s i) := fun s r h => h i (by omega) hin
        have e20 := v20 o3.length i b3 (by omega)
        obtain ⟨m', e18'⟩ := v18 n3 false o3 b3 _ hd1
        have hvr : treeOf o3.length (fun s => s i) = varT i := canon' (treeOf_wf _ _) (varT_wf hin) fun a => by rw [treeOf_fn hd1, varT_fn]
        rw [hvr] at e18'
        have e17' := sameT n3 false n3 m' o3 (varT i) (varT i) b3 (varT_wf hin)
        simp only [decide_true] at e17'
        simp only [zB, eB, eT] at T1 V1 e17 e18 e17' e18'
        rw [T1, V1]
        rw [hi] at hix
        simp [-OX_b, hzz, hZ, e19, e18, e17, hi, e20, e18', e17']
        exact hk _ _ _ _ _ _
    · intro y1 y2 y3 e1 e2 e3
      have e24a := v24 n1 m1 o1 x1 r1 (by unfold Bd; omega) (by unfold Bd; omega)
      have e24b := v24 n2 m2 o2 x2 r2 (by unfold Bd; omega) (by unfold Bd; omega)
      have e27 : isoCall (call dp) 27 [eRows n1 o1, eRows n2 o2] = some (.b (decide (o1 = o2))) := by
        apply i27 _ _ _ (by simp [noRefL]) rfl
        simp [s27, v52 n1 n2 o1 o2 (by unfold Bd; omega)]
      by_cases hall : VB o1 x1 r1 ∧ VB o2 x2 r2 ∧ o1 = o2
      case neg =>
        have A := v21 (v54_bad 0 n1 m1 n2 m2 o1 o2 x1 x2 r1 r2 g1 g2 (by unfold Bd; omega) (by unfold Bd; omega) (by unfold Bd; omega) (by unfold Bd; omega) hall)
        have O := v22 (v54_bad 1 n1 m1 n2 m2 o1 o2 x1 x2 r1 r2 g1 g2 (by unfold Bd; omega) (by unfold Bd; omega) (by unfold Bd; omega) (by unfold Bd; omega) hall)
        by_cases hva : VB o1 x1 r1
        case neg =>
          have N := v23_bad n1 m1 o1 x1 r1 g1 (by unfold Bd; omega) (by unfold Bd; omega) hva
          rw [decide_eq_false hva] at e24a
          simp only [zB, eB] at A O N e24a
          simp [-OX_b, A, O, N, e24a, hzz, hZ]
        obtain ⟨t, TT⟩ := VB_VT.1 hva
        obtain ⟨⟨hoo, _⟩, wt, rfl, rfl, _⟩ := TT
        obtain ⟨cL, sL, wL⟩ := post_nil t
        obtain ⟨q1, _, N⟩ := notT_spec n1 m1 o1 t hoo b1 wt g1
        have e25 := v25 n1 m1 o1 t cL (wL _ wt) b1 (by rw [nds_len] at c1; omega) sL
        have hdt : Dep o1.length 0 (fun s => !fn t s) := fun s r h => by simp only []; rw [fn_agree wt fun i _ hi => h i (Nat.zero_le _) hi]
        have e26 := v26 false o1.length b1 (fn t)
        obtain ⟨m', e18⟩ := v18 n1 false o1 b1 _ hdt
        have htr : treeOf o1.length (fun s => !fn t s) = notT t := canon' (treeOf_wf _ _) (Wf_not wt) fun a => by rw [treeOf_fn hdt, fn_not]
        rw [htr] at e18
        have e17 := sameT n1 q1 n1 m' o1 (notT t) (notT t) b1 (Wf_not wt)
        simp only [decide_true] at e17
        rw [decide_eq_true hva] at e24a
        simp only [zB, eB, eT] at A O N e24a e24b e25 e18 e17
        by_cases hvb : VB o2 x2 r2
        · have hoe : ¬ o1 = o2 := fun h => hall ⟨hva, hvb, h⟩
          rw [decide_eq_true hvb] at e24b
          rw [decide_eq_false hoe] at e27
          simp [-OX_b, A, O, N, e24a, e24b, e25, e26, e18, e17, e27, hzz, hZ]
        · rw [decide_eq_false hvb] at e24b
          simp [-OX_b, A, O, N, e24a, e24b, e25, e26, e18, e17, hzz, hZ]
      obtain ⟨hva, hvb, rfl⟩ := hall
      obtain ⟨t, TT⟩ := VB_VT.1 hva
      obtain ⟨s, TS⟩ := VB_VT.1 hvb
      obtain ⟨⟨hoo, _⟩, wt, rfl, rfl, _⟩ := TT
      obtain ⟨_, ws, rfl, rfl, _⟩ := TS
      obtain ⟨cL, sL, wL⟩ := post_nil t
      obtain ⟨cL', sL', wL'⟩ := post_nil s
      obtain ⟨k1, _, A⟩ := andT n1 m1 n2 m2 o1 t s hoo b1 wt ws g1 g2
      obtain ⟨k2, _, O⟩ := orT n1 m1 n2 m2 o1 t s hoo b1 wt ws g1 g2
      obtain ⟨q1, _, N⟩ := notT_spec n1 m1 o1 t hoo b1 wt g1
      have e25 := v25 n1 m1 o1 t cL (wL _ wt) b1 (by rw [nds_len] at c1; omega) sL
      have e25' := v25 n2 m2 o1 s cL' (wL' _ ws) b1 (by rw [nds_len] at c2; omega) sL'
      have hag : ∀ {x : T}, Wf o1.length x → ∀ a b : Nat → Bool, (∀ i, 0 ≤ i → i < o1.length → a i = b i) → fn x a = fn x b := fun w a b h => fn_agree w fun i _ hi => h i (Nat.zero_le _) hi
      have hdt : Dep o1.length 0 (fun a => !fn t a) := fun a b h => by simp only []; rw [hag wt a b h]
      have hda : Dep o1.length 0 (fun a => fn t a && fn s a) := fun a b h => by simp only []; rw [hag wt a b h, hag ws a b h]
      have hdo : Dep o1.length 0 (fun a => fn t a || fn s a) := fun a b h => by simp only []; rw [hag wt a b h, hag ws a b h]
      have e26 := v26 false o1.length b1 (fn t)
      have e28 := v28 false false o1.length b1 (fn t) (fn s)
      have e29 := v29 false false o1.length b1 (fn t) (fn s)
      obtain ⟨m', e18⟩ := v18 n1 false o1 b1 _ hdt
      obtain ⟨m3, e18a⟩ := v18 n1 false o1 b1 _ hda
      obtain ⟨m4, e18o⟩ := v18 n1 false o1 b1 _ hdo
      have htr : treeOf o1.length (fun s => !fn t s) = notT t := canon' (treeOf_wf _ _) (Wf_not wt) fun a => by rw [treeOf_fn hdt, fn_not]
      have hta : treeOf o1.length (fun a => fn t a && fn s a) = opT o1.length false t s := canon' (treeOf_wf _ _) (opT_wf _ _ _ _) fun a => by rw [treeOf_fn hda, opT_fn wt ws]; rfl
      have hto : treeOf o1.length (fun a => fn t a || fn s a) = opT o1.length true t s := canon' (treeOf_wf _ _) (opT_wf _ _ _ _) fun a => by rw [treeOf_fn hdo, opT_fn wt ws]; rfl
      rw [htr] at e18
      rw [hta] at e18a
      rw [hto] at e18o
      have e17 := sameT n1 q1 n1 m' o1 (notT t) (notT t) b1 (Wf_not wt)
      simp only [decide_true] at e17 e27
      have e17a := sameT n1 k1 n1 m3 o1 (opT o1.length false t s) _ b1 (opT_wf o1.length false t s)
      have e17o := sameT n1 k2 n1 m4 o1 (opT o1.length true t s) _ b1 (opT_wf o1.length true t s)
      simp only [decide_true] at e17a e17o
      rw [decide_eq_true hva] at e24a
      rw [decide_eq_true hvb] at e24b
      simp only [zB, eB, eT] at A O N e24a e24b e25 e25' e18 e18a e18o e17 e17a e17o
      simp [-OX_b, A, O, N, e24a, e24b, e25, e25', e26, e28, e29, e18, e18a, e18o, e17, e17a, e17o, e27])
  exact ⟨S', e⟩

end Go.Proofs.YtjlmeikcfdanmaaGreatDoor.DE.V
