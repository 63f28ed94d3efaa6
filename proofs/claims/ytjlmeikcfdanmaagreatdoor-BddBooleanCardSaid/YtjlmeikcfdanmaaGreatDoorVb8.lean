/-
  THE LAW BddBoolean ON DATA.
-/
import Derived.Test.YtjlmeikcfdanmaaGreatDoorVl
import Derived.Test.YtjlmeikcfdanmaaGreatDoorVf
namespace Go.Proofs.YtjlmeikcfdanmaaGreatDoor.DE.V
open Go BT
set_option maxRecDepth 20000

theorem ixOf_lt (r : Row) : ∀ l : List Row, ixOf r l < l.length ∧ -1 ≤ ixOf r l
  | [] => by simp [ixOf]
  | x :: l => by
    have := ixOf_lt r l
    simp only [ixOf, List.length_cons]
    split
    · omega
    · split <;> omega

open Classical in
theorem eqT (na na' nb nb' : Bool) (o : List Row) (t s : T) (ho : OrdOk o) (h7 : o.length ≤ 7) (wt : Wf o.length t) (ws : Wf o.length s) (hn : nlOk na o) :
    isoCall (call dp) 34 [eT na na' o t, eT nb nb' o s] = some (.b (decide (t = s))) := by
  have z1 := small h7 wt
  have z2 := small h7 ws
  have e := v34 na na' nb nb' o o (nds (post t [])) (nds (post s [])) (code (post t []) t) (code (post s []) s) hn (by rw [nds_len]; unfold Bd; omega) (by unfold Bd; omega) (by rw [nds_len]; unfold Bd; omega) (by unfold Bd; omega)
  refine e.trans ?_
  congr 2
  rw [decide_eq_decide]
  constructor
  · rintro ⟨_, h1, _, h2⟩
    have := nds_inj (post_nil t).1 (post_nil s).1 h2
    rw [← this] at h1
    exact code_inj (post_nil t).2.1 (this ▸ (post_nil s).2.1) h1
  · rintro rfl
    exact ⟨VB_VT.2 ⟨t, VT_eT ho h7 wt⟩, rfl, rfl, rfl⟩

theorem resT' (nl nl' : Bool) (o : List Row) (r : Row) (b : Bool) (t : T) (ho : OrdOk o) (h7 : o.length ≤ 7) (wt : Wf o.length t) (hn : nlOk nl o) :
    ∃ n : Bool, isoCall (call dp) 38 [eT nl nl' o t, .agg (eRow r), .b b] = some (eT nl n o (resZ (ixOf r o) b t)) := by
  obtain ⟨n, _, h⟩ := v38 nl nl' o _ _ r b t (VT_eT ho h7 wt) hn
  exact ⟨n, h⟩

theorem resZ_wf {n : Nat} {fx : Int} {b : Bool} : ∀ {t : T}, Wf n t → Wf n (resZ fx b t) := by
  intro t w
  rcases Int.lt_or_le fx 0 with h | h
  · rw [resZ_neg b h w]; exact w
  · obtain ⟨v, rfl⟩ : ∃ v : Nat, fx = v := ⟨fx.toNat, by omega⟩
    rw [resZ_nat]; exact (resT_spec w).1

open Classical in
theorem law8 (n1 m1 : Bool) (o1 : List Row) (x1 : List Nd) (r1 : Int) (n2 m2 : Bool) (o2 : List Row) (x2 : List Nd) (r2 : Int) (n3 m3 : Bool) (o3 : List Row) (x3 : List Nd) (r3 : Int) (id : Row)
    (g1 : n1 = true → o1 = []) (_ : m1 = true → x1 = []) (_ : ∀ a ∈ o1, okRow a) (_ : ∀ a ∈ x1, okNd64 a) (_ : in64 r1)
    (g2 : n2 = true → o2 = []) (_ : m2 = true → x2 = []) (_ : ∀ a ∈ o2, okRow a) (_ : ∀ a ∈ x2, okNd64 a) (_ : in64 r2)
    (g3 : n3 = true → o3 = []) (_ : m3 = true → x3 = []) (_ : ∀ a ∈ o3, okRow a) (_ : ∀ a ∈ x3, okNd64 a) (_ : in64 r3) (_ : okRow id) :
    ∃ S', call dp 8 [eB n1 m1 o1 x1 r1, eB n2 m2 o2 x2 r2, eB n3 m3 o3 x3 r3, .agg (eRow id)] [] = some (.b true, S') := by
  obtain ⟨r, S', e, rfl⟩ := f8 (eB n1 m1 o1 x1 r1) (eB n2 m2 o2 x2 r2) (eB n3 m3 o3 x3 r3) (.agg (eRow id)) [] (fun d _ => d = .b true) (by
    have a1 := v11 n1 m1 o1 x1 r1
    have a2 := v11 n2 m2 o2 x2 r2
    have a3 := v11 n3 m3 o3 x3 r3
    simp only [eB] at a1 a2 a3
    simp [s8, v10, a1, a2, a3]
    intro b1 c1 b2 c2 b3 c3
    have e1 := v33 n1 m1 o1 x1 r1 g1 (by unfold Bd; omega) (by unfold Bd; omega)
    have e2 := v33 n2 m2 o2 x2 r2 g2 (by unfold Bd; omega) (by unfold Bd; omega)
    have e3 := v33 n3 m3 o3 x3 r3 g3 (by unfold Bd; omega) (by unfold Bd; omega)
    have e12 : isoCall (call dp) 27 [eRows n1 o1, eRows n2 o2] = some (.b (decide (o1 = o2))) := by
      apply i27 _ _ _ (by simp [noRefL]) rfl
      simp [s27, v52 n1 n2 o1 o2 (by unfold Bd; omega)]
    have e13 : isoCall (call dp) 27 [eRows n1 o1, eRows n3 o3] = some (.b (decide (o1 = o3))) := by
      apply i27 _ _ _ (by simp [noRefL]) rfl
      simp [s27, v52 n1 n3 o1 o3 (by unfold Bd; omega)]
    simp only [eB] at e1 e2 e3
    simp [e1, e2, e3, e12, e13]
    intro v1 v2 v3 h12 h13
    subst h12 h13
    obtain ⟨t, T1⟩ := VB_VT.1 v1
    obtain ⟨s, T2⟩ := VB_VT.1 v2
    obtain ⟨u, T3⟩ := VB_VT.1 v3
    obtain ⟨⟨ho, _⟩, wt, rfl, rfl, _⟩ := T1
    obtain ⟨_, ws, rfl, rfl, _⟩ := T2
    obtain ⟨_, wu, rfl, rfl, _⟩ := T3
    have wo := fun d x y => opT_wf o1.length d x y
    have wnt := Wf_not wt
    have wns := Wf_not ws
    obtain ⟨k1, _, A1⟩ := andT n1 m1 n2 m2 o1 t s ho b1 wt ws g1 g2
    obtain ⟨q1, _, N1⟩ := notT_spec n1 m1 o1 t ho b1 wt g1
    obtain ⟨q2, _, N2⟩ := notT_spec n2 m2 o1 s ho b1 ws g2
    obtain ⟨k2, _, O1⟩ := orT n1 q1 n2 q2 o1 _ _ ho b1 wnt wns g1 g2
    obtain ⟨k3, _, O2⟩ := orT n2 m2 n3 m3 o1 s u ho b1 ws wu g2 g3
    obtain ⟨k4, _, A2⟩ := andT n1 m1 n2 k3 o1 t _ ho b1 wt (wo true s u) g1 g2
    obtain ⟨k5, _, A3⟩ := andT n1 m1 n3 m3 o1 t u ho b1 wt wu g1 g3
    obtain ⟨k6, _, O3⟩ := orT n1 k1 n1 k5 o1 _ _ ho b1 (wo false t s) (wo false t u) g1 g1
    obtain ⟨k7, _, A4⟩ := andT n1 m1 n1 q1 o1 t _ ho b1 wt wnt g1 g1
    obtain ⟨q3, _, N3⟩ := notT_spec n1 q1 o1 _ ho b1 wnt g1
    have E1 := eqT n1 q3 n1 m1 o1 (notT (notT t)) t ho b1 (Wf_not wnt) wt g1
    obtain ⟨q4, _, N4⟩ := notT_spec n1 k1 o1 _ ho b1 (wo false t s) g1
    have E2 := eqT n1 q4 n1 k2 o1 _ _ ho b1 (Wf_not (wo false t s)) (wo true (notT t) (notT s)) g1
    have E3 := eqT n1 k4 n1 k6 o1 _ _ ho b1 (wo false t (opT o1.length true s u)) (wo true (opT o1.length false t s) (opT o1.length false t u)) g1
    have T0 := v13 n1 o1 false g1 (by unfold Bd; omega)
    rw [if_pos ⟨ho, by omega⟩] at T0
    have E4 := eqT n1 k7 n1 true o1 _ (.leaf false) ho b1 (wo false t (notT t)) trivial g1
    have V := v14 n1 o1 id g1 (by unfold Bd; omega)
    rw [if_pos ⟨ho, by omega⟩] at V
    have h1 : notT (notT t) = t := notT_notT t
    have h2 : notT (opT o1.length false t s) = opT o1.length true (notT t) (notT s) := canon' (Wf_not (wo false t s)) (wo true _ _) fun a => by
      rw [fn_not, opT_fn wt ws, opT_fn wnt wns, fn_not, fn_not]
      simp [opb]
    have h3 : opT o1.length false t (opT o1.length true s u) = opT o1.length true (opT o1.length false t s) (opT o1.length false t u) := canon' (wo _ _ _) (wo _ _ _) fun a => by
      rw [opT_fn wt (wo _ _ _), opT_fn ws wu, opT_fn (wo _ _ _) (wo _ _ _), opT_fn wt ws, opT_fn wt wu]
      simp [opb, Bool.and_or_distrib_left]
    have h4 : opT o1.length false t (notT t) = .leaf false := canon' (wo _ _ _) trivial fun a => by
      rw [opT_fn wt wnt, fn_not]
      simp [opb, fn]
    simp only [h1, h2, h3, h4, decide_true] at E1 E2 E3 E4
    obtain ⟨k8, R1⟩ := resT' n1 m1 o1 id true t ho b1 wt g1
    obtain ⟨k9, R2⟩ := resT' n1 m1 o1 id false t ho b1 wt g1
    have c00 : code [] (T.leaf false) = 0 := rfl
    by_cases hix : ixOf id o1 < 0
    · rw [if_pos hix] at V
      rw [resZ_neg true hix wt] at R1
      have E5 := eqT n1 k8 n1 m1 o1 t t ho b1 wt wt g1
      simp only [decide_true] at E5
      simp only [eT, eB, zB, h1, h2, h3, h4, post, nds, List.map_nil, c00] at A1 N1 N2 O1 O2 A2 A3 O3 A4 N3 E1 N4 E2 E3 T0 E4 V R1 E5
      simp only [nds]
      simp [A1, N1, N2, O1, O2, A2, A3, O3, A4, N3, E1, N4, E2, E3, T0, E4, V, R1, E5]
    · rw [if_neg hix] at V
      obtain ⟨hlt, _⟩ := ixOf_lt id o1
      obtain ⟨i, hi⟩ : ∃ i : Nat, ixOf id o1 = i := ⟨(ixOf id o1).toNat, by omega⟩
      rw [hi] at V R1 R2
      have hin : i < o1.length := by omega
      rw [resZ_nat] at R1 R2
      have wv := varT_wf hin
      obtain ⟨w1, _, f1⟩ := resT_spec (v := i) (b := true) wt
      obtain ⟨w2, _, f2⟩ := resT_spec (v := i) (b := false) wt
      have hvT : eB n1 false o1 [((i : Int), 0, 1)] 2 = eT n1 false o1 (varT i) := by
        simp [eT, varT, post, nds, nd, code, pos]
      rw [hvT] at V
      obtain ⟨k10, _, A5⟩ := andT n1 false n1 k8 o1 _ _ ho b1 wv w1 g1 g1
      obtain ⟨q5, _, N5⟩ := notT_spec n1 false o1 _ ho b1 wv g1
      obtain ⟨k11, _, A6⟩ := andT n1 q5 n1 k9 o1 _ _ ho b1 (Wf_not wv) w2 g1 g1
      obtain ⟨k12, _, O4⟩ := orT n1 k10 n1 k11 o1 _ _ ho b1 (wo false (varT i) (resT i true t)) (wo false (notT (varT i)) (resT i false t)) g1 g1
      have E6 := eqT n1 k12 n1 m1 o1 _ t ho b1 (wo true (opT o1.length false (varT i) (resT i true t)) (opT o1.length false (notT (varT i)) (resT i false t))) wt g1
      have h5 : opT o1.length true (opT o1.length false (varT i) (resT i true t)) (opT o1.length false (notT (varT i)) (resT i false t)) = t := canon' (wo _ _ _) wt fun a => by
        rw [opT_fn (wo _ _ _) (wo _ _ _), opT_fn wv w1, opT_fn (Wf_not wv) w2, fn_not, varT_fn, f1, f2]
        cases h : a i with
        | true =>
          have : upd a i true = a := by rw [← h]; exact upd_same a i
          simp [opb, this]
        | false =>
          have : upd a i false = a := by rw [← h]; exact upd_same a i
          simp [opb, this]
      simp only [h5, decide_true] at E6
      simp only [h5] at O4
      simp only [eT, eB, zB, h1, h2, h3, h4, post, nds, List.map_nil, c00] at A1 N1 N2 O1 O2 A2 A3 O3 A4 N3 E1 N4 E2 E3 T0 E4 V R1 R2 A5 N5 A6 O4 E6
      simp only [nds]
      simp [A1, N1, N2, O1, O2, A2, A3, O3, A4, N3, E1, N4, E2, E3, T0, E4, V, R1, R2, A5, N5, A6, O4, E6])
  exact ⟨S', e⟩

end Go.Proofs.YtjlmeikcfdanmaaGreatDoor.DE.V
