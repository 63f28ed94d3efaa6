/-
  WHAT THE FUNCTIONS ANSWER: the combination of two diagrams.
-/
import Derived.Test.YtjlmeikcfdanmaaGreatDoorVh
namespace Go.Proofs.YtjlmeikcfdanmaaGreatDoor.DE.V
open Go BT

theorem v95 (nl nl' : Bool) (ord : List Row) {L : List T} (root : Int) (hL : Cl L) (hb : L.length ≤ 1000000) (t : T) (ht : sub L t) (v : Nat) (hv : v < ord.length) :
    isoCall (call dp) 95 [eB nl nl' ord (nds L) root, .i .i64 (code L t), .i .i64 v] = some (.tup [.i .i64 (code L (loT v t)), .i .i64 (code L (hiT v t))]) := by
  apply i95 _ _ _ _ (by simp [noRefL]) rfl
  have h0 := code_nonneg L t
  have h1 := code_lt ht
  have e77 := v77 nl nl' ord (nds L) root (code L t) ⟨by omega, by omega⟩ (by rw [nds_len]; exact h1)
  rw [lev_code ht] at e77
  simp only [eB] at e77
  simp [s95, e77]
  by_cases e : top ord.length t = v
  · have e' : (top ord.length t : Int) = v := by omega
    cases t with
    | leaf b => simp only [top] at e; omega
    | node w l h =>
      simp only [top] at e e'
      subst e
      have hge := code_node_ge L w l h
      have hpos : (code L (.node w l h) - 2).toNat = pos L (.node w l h) := by simp only [code]; omega
      simp [top]
      rw [wrap64 ⟨by omega, by omega⟩, iaD_nds' _ (by omega) (by rw [hpos]; exact nds_get ht)]
      simp [nd, loT, hiT]
  · have e' : ¬ (top ord.length t : Int) = v := by omega
    cases t with
    | leaf b => simp [e', loT, hiT]
    | node w l h => simp only [top] at e; simp [e', loT, hiT, e]

def dI (d : Bool) : Int := if d then 1 else 0

theorem code_dI (M : List T) (d : Bool) : code M (.leaf d) = dI d := by cases d <;> rfl
theorem code_eq_dI (L : List T) (d : Bool) : ∀ t : T, code L t = dI d ↔ t = .leaf d
  | .leaf b => by cases b <;> cases d <;> simp [code, dI]
  | .node v l h => by
    have := code_node_ge L v l h
    constructor
    · intro e; cases d <;> simp [dI] at e <;> omega
    · intro e; cases e
theorem code_lt2 (L : List T) : ∀ t : T, code L t < 2 ↔ ∃ b, t = .leaf b
  | .leaf b => ⟨fun _ => ⟨b, rfl⟩, fun _ => code_leaf_lt L b⟩
  | .node v l h => ⟨fun e => by have := code_node_ge L v l h; omega, fun ⟨b, e⟩ => by cases e⟩

/-- What the combination finds in the store, beside the map of what is done and the maker. -/
def ApI (d : Bool) (La Lb : List T) (na na' nb nb' : Bool) (oa ob : List Row) (ra rb : Int) (i2 i3 ia ib i6 ik im : Nat) (S : Store) : Prop :=
  sget S i2 = some (.box [.i .i64 (dI d)]) ∧ sget S i3 = some (.box [.mp im]) ∧ sget S ia = some (.box [eRows na oa, eNds na' (nds La), .i .i64 ra]) ∧ sget S ib = some (.box [eRows nb ob, eNds nb' (nds Lb), .i .i64 rb]) ∧
  sget S i6 = some (.box [.fn 94 [.bx i2 0, .bx i3 0, .bx ia 0, .bx ib 0, .bx i6 0, .bx ik 0]])

/-- What the map of what is done holds. -/
def DnI (n : Nat) (d : Bool) (La Lb M : List T) (done : List (Row × Int)) : Prop :=
  (done.map (·.1)).Nodup ∧ ∀ e, e ∈ done → ∃ t s u, sub La t ∧ sub Lb s ∧ e = ((code La t, code Lb s), code M u) ∧ sub M u ∧ IsOp n d t s u

theorem DnI.app {n : Nat} {d : Bool} {La Lb M : List T} {done : List (Row × Int)} (N : List T) (h : DnI n d La Lb M done) : DnI n d La Lb (M ++ N) done :=
  ⟨h.1, fun e he => by
    obtain ⟨t, s, u, a, b, c, k, l⟩ := h.2 e he
    exact ⟨t, s, u, a, b, by rw [c, code_app N k], sub_app N k, l⟩⟩

theorem DnI.len {n : Nat} {d : Bool} {La Lb M : List T} {done : List (Row × Int)} (h : DnI n d La Lb M done) : done.length ≤ (La.length + 2) * (Lb.length + 2) := by
  have := nodup_len (L := (List.range (La.length + 2)).flatMap fun (i : Nat) => (List.range (Lb.length + 2)).map fun (j : Nat) => ((i : Int), (j : Int))) h.1 (by
    intro k hk
    obtain ⟨e, he, rfl⟩ := List.mem_map.1 hk
    obtain ⟨t, s, u, a, b, c, _, _⟩ := h.2 e he
    rw [c]
    have := code_nonneg La t
    have := code_lt a
    have := code_nonneg Lb s
    have := code_lt b
    refine List.mem_flatMap.2 ⟨(code La t).toNat, List.mem_range.2 (by omega), List.mem_map.2 ⟨(code Lb s).toNat, List.mem_range.2 (by omega), ?_⟩⟩
    rw [Int.toNat_of_nonneg (by omega), Int.toNat_of_nonneg (by omega)])
  rw [List.length_map] at this
  refine Nat.le_trans this (Nat.le_of_eq ?_)
  generalize La.length + 2 = p
  generalize Lb.length + 2 = q
  induction p with
  | zero => simp
  | succ p ih => rw [List.range_succ, List.flatMap_append, List.length_append, ih]; simp [Nat.succ_mul]

theorem ApI.pres {d : Bool} {La Lb : List T} {na na' nb nb' : Bool} {oa ob : List Row} {ra rb : Int} {i2 i3 ia ib i6 ik im : Nat} {S S' : Store} (h : ApI d La Lb na na' nb nb' oa ob ra rb i2 i3 ia ib i6 ik im S) (p : PresB ik S S')
    (k2 : i2 ≠ ik) (k3 : i3 ≠ ik) (ka : ia ≠ ik) (kb : ib ≠ ik) (k6 : i6 ≠ ik) : ApI d La Lb na na' nb nb' oa ob ra rb i2 i3 ia ib i6 ik im S' :=
  ⟨p _ _ k2 h.1, p _ _ k3 h.2.1, p _ _ ka h.2.2.1, p _ _ kb h.2.2.2.1, p _ _ k6 h.2.2.2.2⟩

theorem assoc_mem {α β : Type} [DecidableEq α] {a : α} {b : β} : ∀ {es : List (α × β)}, assoc a es = some b → (a, b) ∈ es
  | (k, v) :: es, h => by
    simp only [assoc] at h
    split at h
    · rename_i e; injection h with h; subst e h; simp
    · exact List.mem_cons_of_mem _ (assoc_mem h)

theorem sub_addT {M : List T} {v : Nat} {l h : T} (kl : sub M l) : sub (addT M (mk v l h)) (mk v l h) := by
  unfold mk
  split
  · revert kl
    cases l with
    | leaf _ => exact fun k => k
    | node _ _ _ => intro k; simp only [addT, sub] at *; rw [if_pos k]; exact k
  · simp only [addT, sub]
    split
    · assumption
    · simp

theorem addT_ext {M : List T} (hM : Cl M) {v : Nat} {l h : T} (kl : sub M l) (kh : sub M h) : (∃ N, addT M (mk v l h) = M ++ N) ∧ Cl (addT M (mk v l h)) ∧ (addT M (mk v l h)).length ≤ M.length + 1 := by
  unfold mk
  split
  · have ha : addT M l = M := by
      revert kl
      cases l with
      | leaf _ => intro _; rfl
      | node _ _ _ => intro k; simp only [addT]; exact if_pos k
    rw [ha]; exact ⟨⟨[], by simp⟩, hM, by omega⟩
  · simp only [addT]
    split
    · exact ⟨⟨[], by simp⟩, hM, by omega⟩
    · rename_i hn; exact ⟨⟨_, rfl⟩, Cl_snoc.2 ⟨hM, hn, kl, kh⟩, by simp⟩

theorem deq_fn94 (a b c d e f : Nat) : deq (.fn 94 [.bx a 0, .bx b 0, .bx c 0, .bx d 0, .bx e 0, .bx f 0]) (.fn 94 [.bx a 0, .bx b 0, .bx c 0, .bx d 0, .bx e 0, .bx f 0]) = true := by simp [deq, deqL]

theorem wfs {n : Nat} {L : List T} (h : ∀ t, t ∈ L → Wf n t) : ∀ {t : T}, sub L t → Wf n t
  | .leaf _, _ => trivial
  | .node _ _ _, k => h _ k

theorem v94 (d : Bool) {La Lb : List T} (hLa : Cl La) (hLb : Cl Lb) (na na' nb nb' : Bool) (oa ob : List Row) (ra rb : Int) (i2 i3 ia ib i6 ik im : Nat)
    (wa : ∀ t, t ∈ La → Wf oa.length t) (wb : ∀ t, t ∈ Lb → Wf oa.length t) (hab : ob.length = oa.length) (hz : (La.length + 2) * (Lb.length + 2) ≤ 1000000)
    (za : La.length ≤ 4096) (zb : Lb.length ≤ 4096)
    (k2 : i2 ≠ ik) (k3 : i3 ≠ ik) (ka : ia ≠ ik) (kb : ib ≠ ik) (k6 : i6 ≠ ik) : ∀ (k : Nat) (t s : T) (M : List T) (done : List (Row × Int)) (S : Store), t.size + s.size < k → sub La t → sub Lb s → Cl M → M.length ≤ done.length →
    ApI d La Lb na na' nb nb' oa ob ra rb i2 i3 ia ib i6 ik im S → sget S im = some (.map (eMap eRowK eI done)) → DnI oa.length d La Lb M done → MkI ik (· = im) M S →
    ∃ u M' done' S', call dp 94 [.i .i64 (code La t), .i .i64 (code Lb s), .bx i2 0, .bx i3 0, .bx ia 0, .bx ib 0, .bx i6 0, .bx ik 0] S = some (.i .i64 (code M' u), S') ∧ IsOp oa.length d t s u ∧ sub M' u ∧ Cl M' ∧ (∃ N, M' = M ++ N) ∧
      M'.length ≤ done'.length ∧ sget S' im = some (.map (eMap eRowK eI done')) ∧ DnI oa.length d La Lb M' done' ∧ MkI ik (· = im) M' S' ∧ PresB ik S S' ∧
      ∀ e, e ∈ done' → e ∈ done ∨ ∃ t' s', sub La t' ∧ sub Lb s' ∧ e.1 = (code La t', code Lb s') ∧ t'.size + s'.size ≤ t.size + s.size := by
  intro k
  induction k with
  | zero => intro t s _ _ _ h; omega
  | succ k ih =>
    intro t s M done S hk ht hs hM hMd hA him hD hI
    let P : D → Store → Prop := fun r S' => ∃ u M' done', r = .i .i64 (code M' u) ∧ IsOp oa.length d t s u ∧ sub M' u ∧ Cl M' ∧ (∃ N, M' = M ++ N) ∧
      M'.length ≤ done'.length ∧ sget S' im = some (.map (eMap eRowK eI done')) ∧ DnI oa.length d La Lb M' done' ∧ MkI ik (· = im) M' S' ∧ PresB ik S S' ∧
      ∀ e, e ∈ done' → e ∈ done ∨ ∃ t' s', sub La t' ∧ sub Lb s' ∧ e.1 = (code La t', code Lb s') ∧ t'.size + s'.size ≤ t.size + s.size
    obtain ⟨r, S', e, u, M', done', rfl, h⟩ := f94 (.i .i64 (code La t)) (.i .i64 (code Lb s)) (.bx i2 0) (.bx i3 0) (.bx ia 0) (.bx ib 0) (.bx i6 0) (.bx ik 0) S P (by
      have stay : ∀ u, IsOp oa.length d t s u → sub M u → P (.i .i64 (code M u)) S := fun u hu hs => ⟨u, M, done, rfl, hu, hs, hM, ⟨[], by simp⟩, hMd, him, hD, hI, PresB.refl _ _, fun e he => .inl he⟩
      simp [s94, hA.1]
      by_cases e1 : t = .leaf d
      · subst e1
        simp [code_dI]
        have := stay (.leaf d) IsOp_dom_l trivial
        rwa [code_dI] at this
      have f1 : ¬ code La t = dI d := fun h => e1 ((code_eq_dI La d t).1 h)
      by_cases e2 : s = .leaf d
      · subst e2
        simp [f1, code_dI]
        have := stay (.leaf d) IsOp_dom_r trivial
        rwa [code_dI] at this
      have f2 : ¬ code Lb s = dI d := fun h => e2 ((code_eq_dI Lb d s).1 h)
      have wt := wfs wa ht
      have ws := wfs wb hs
      by_cases e3 : code La t < 2 ∧ code Lb s < 2
      · obtain ⟨b, rfl⟩ := (code_lt2 La t).1 e3.1
        obtain ⟨c, rfl⟩ := (code_lt2 Lb s).1 e3.2
        have hbd : b = !d := by cases b <;> cases d <;> simp at e1 ⊢
        have hcd : c = !d := by cases c <;> cases d <;> simp at e2 ⊢
        subst hbd hcd
        have hw : IntKind.i64.wrap (1 - dI d) = dI (!d) := by cases d <;> rfl
        simp [f1, f2, e3.1, e3.2, hw]
        have := stay (.leaf (!d)) IsOp_both trivial
        rwa [code_dI] at this
      have hv : min (top oa.length t) (top oa.length s) < oa.length := by
        rcases Nat.lt_or_ge (min (top oa.length t) (top oa.length s)) oa.length with h | h
        · exact h
        · exfalso
          apply e3
          constructor
          · rw [code_lt2]
            cases t with
            | leaf b => exact ⟨b, rfl⟩
            | node v _ _ => have := wt.1; simp only [top] at h; omega
          · rw [code_lt2]
            cases s with
            | leaf b => exact ⟨b, rfl⟩
            | node v _ _ => have := ws.1; simp only [top] at h; omega
      have hkey : D.agg [.i .i64 (code La t), .i .i64 (code Lb s)] = eRowK (code La t, code Lb s) := rfl
      have hlk := lkD'_mp keyE_rowK (a := (code La t, code Lb s)) (isKey_row _) him true (.i .i64 0)
      have a0 := code_nonneg La t
      have a1 := code_lt ht
      have b0 := code_nonneg Lb s
      have b1 := code_lt hs
      have e77a := v77 na na' oa (nds La) ra (code La t) ⟨by omega, by omega⟩ (by rw [nds_len]; exact a1)
      have e77b := v77 nb nb' ob (nds Lb) rb (code Lb s) ⟨by omega, by omega⟩ (by rw [nds_len]; exact b1)
      rw [lev_code ht] at e77a
      rw [lev_code hs, hab] at e77b
      generalize hvd : min (top oa.length t) (top oa.length s) = v at *
      have hmin : (if (top oa.length s : Int) < top oa.length t then (top oa.length s : Int) else top oa.length t) = v := by split <;> omega
      have e95a := v95 na na' oa ra hLa (by omega) t ht v hv
      have e95b := v95 nb nb' ob rb hLb (by omega) s hs v (by omega)
      simp only [eB] at e77a e77b e95a e95b
      have g : ¬ (code La t < 2 ∧ code Lb s < 2) := e3
      have g' : (¬ code La t < 2) ∨ (code La t < 2 ∧ ¬ code Lb s < 2) := by
        by_cases q : code La t < 2
        · exact .inr ⟨q, fun k => g ⟨q, k⟩⟩
        · exact .inl q
      have szs := lo_size v t
      have szs' := lo_size v s
      have szh := hi_size v t
      have szh' := hi_size v s
      have slt : (loT v t).size + (loT v s).size < t.size + s.size ∧ (hiT v t).size + (hiT v s).size < t.size + s.size := by
        rcases Nat.le_total (top oa.length t) (top oa.length s) with q | q
        · have ev : top oa.length t = v := by omega
          have := lo_size_lt ev hv
          have := hi_size_lt ev hv
          omega
        · have ev : top oa.length s = v := by omega
          have := lo_size_lt ev hv
          have := hi_size_lt ev hv
          omega
      cases ha : assoc (code La t, code Lb s) done with
      | some z =>
        rw [ha] at hlk
        obtain ⟨t', s', u, q1, q2, q3, q4, q5⟩ := hD.2 _ (assoc_mem ha)
        simp only [Prod.mk.injEq] at q3
        obtain ⟨⟨q6, q7⟩, q8⟩ := q3
        have := code_inj ht q1 q6
        subst this
        have := code_inj hs q2 q7
        subst this
        have fin := stay u q5 q4
        rcases g' with g1 | ⟨g1, g2⟩
        · simp [f1, f2, g1, hA.2.1, bldV, hkey, hlk, q8]
          exact fin
        · simp [f1, f2, g1, g2, hA.2.1, bldV, hkey, hlk, q8]
          exact fin
      | none =>
        rw [ha] at hlk
        obtain ⟨A2, A3, Aa, Ab, A6⟩ := hA
        have hmin' : (if top oa.length s < top oa.length t then (top oa.length s : Int) else top oa.length t) = v := by split <;> omega
        have hA : ApI d La Lb na na' nb nb' oa ob ra rb i2 i3 ia ib i6 ik im S := ⟨A2, A3, Aa, Ab, A6⟩
        have sum : t.size + s.size ≤ k := by omega
        obtain ⟨u1, M1, d1, S1, q1, o1, w1, c1, ⟨N1, n1⟩, l1, m1, D1, I1, P1, x1⟩ := ih (loT v t) (loT v s) M done S (by omega) (lo_sub hLa v ht) (lo_sub hLb v hs) hM hMd hA him hD hI
        have hA1 := hA.pres P1 k2 k3 ka kb k6
        obtain ⟨u2, M2, d2, S2, q2, o2, w2, c2, ⟨N2, n2⟩, l2, m2, D2, I2, P2, x2⟩ := ih (hiT v t) (hiT v s) M1 d1 S1 (by omega) (hi_sub hLa v ht) (hi_sub hLb v hs) c1 l1 hA1 m1 D1 I1
        have hA2 := hA1.pres P2 k2 k3 ka kb k6
        have w1' : sub M2 u1 := by rw [n2]; exact sub_app N2 w1
        have hc1 : code M1 u1 = code M2 u1 := by rw [n2, code_app N2 w1]
        have hfresh : ∀ e, e ∈ d2 → e.1 ≠ (code La t, code Lb s) := by
          intro e he e'
          have big : ∀ t' s', sub La t' → sub Lb s' → e.1 = (code La t', code Lb s') → t'.size + s'.size = t.size + s.size := by
            intro t' s' a b c
            rw [e'] at c
            simp only [Prod.mk.injEq] at c
            rw [code_inj ht a c.1, code_inj hs b c.2]
          rcases x2 e he with h | ⟨t', s', a, b, c, z⟩
          · rcases x1 e h with h | ⟨t', s', a, b, c, z⟩
            · exact assoc_none.1 ha e h e'
            · have := big t' s' a b c; omega
          · have := big t' s' a b c; omega
        have hnone : assoc (code La t, code Lb s) d2 = none := assoc_none.2 hfresh
        have hnd2 : ((d2.map (·.1)) ++ [(code La t, code Lb s)]).Nodup := nodup_snoc.2 ⟨D2.1, fun h => by
          obtain ⟨e, he, e'⟩ := List.mem_map.1 h
          exact hfresh e he e'⟩
        have hop : IsOp oa.length d t s (mk v u1 u2) := by
          subst hvd
          exact IsOp_mk wt ws hv o1 o2
        have hlen : d2.length + 1 ≤ 1000000 := by
          -- the new key counts too
          obtain ⟨a, b, c⟩ := addT_ext c2 (v := v) w1' w2
          obtain ⟨N3, n3⟩ := a
          have hw3 := sub_addT (v := v) (h := u2) w1'
          have : DnI oa.length d La Lb (addT M2 (mk v u1 u2)) (d2 ++ [((code La t, code Lb s), code (addT M2 (mk v u1 u2)) (mk v u1 u2))]) := by
            refine ⟨by simpa using hnd2, fun e he => ?_⟩
            rcases List.mem_append.1 he with he | he
            · rw [n3]; exact (D2.app N3).2 e he
            · rw [List.mem_singleton.1 he]; exact ⟨t, s, _, ht, hs, rfl, hw3, hop⟩
          have := this.len
          simp at this
          omega
        have hmk : im ≠ ik := by
          rintro rfl
          obtain ⟨_, _, _, b, _⟩ := I2
          rw [m2] at b; cases b
        obtain ⟨S3, q3, I3, P3, m3, _⟩ := v80 ik (· = im) c2 (by omega) v u1 u2 w1' w2 S2 I2 (Ne.symm hmk) (fun j hj => by have := sget_lt m2; have hj' : j = im := hj; omega)
        have m3 := m3 im _ rfl m2
        obtain ⟨⟨N3, n3⟩, c3, l3⟩ := addT_ext c2 (v := v) w1' w2
        have hw3 := sub_addT (v := v) (h := u2) w1'
        generalize addT M2 (mk v u1 u2) = M3 at *
        have hA3 := hA2.pres P3 k2 k3 ka kb k6
        have hmu := muD'_new keyE_rowK (ev := eI) (a := (code La t, code Lb s)) (b := code M3 (mk v u1 u2)) (isKey_row _) m3 hnone
        have hs4 := sget_sset (Ent.map (eMap eRowK eI (d2 ++ [((code La t, code Lb s), code M3 (mk v u1 u2))]))) (sget_lt m3)
        have hlk4 := lkD'_mp keyE_rowK (a := (code La t, code Lb s)) (isKey_row _) hs4 false (.i .i64 0)
        rw [assoc_app, hnone] at hlk4
        simp [assoc] at hlk4
        have i3m : i3 ≠ im := by rintro rfl; rw [hA3.2.1] at m3; cases m3
        have hA4 : sget (sset S3 im (Ent.map (eMap eRowK eI (d2 ++ [((code La t, code Lb s), code M3 (mk v u1 u2))])))) i3 = _ := (sget_sset_ne _ i3m).trans hA3.2.1
        have fin : P (.i .i64 (code M3 (mk v u1 u2))) (sset S3 im (Ent.map (eMap eRowK eI (d2 ++ [((code La t, code Lb s), code M3 (mk v u1 u2))])))) := by
          refine ⟨_, M3, _, rfl, hop, hw3, c3, ⟨N1 ++ (N2 ++ N3), by rw [n3, n2, n1]; simp⟩, by simp; omega, hs4, ?_, ?_, ?_, ?_⟩
          · refine ⟨by simpa using hnd2, fun e he => ?_⟩
            rcases List.mem_append.1 he with he | he
            · rw [n3]; exact (D2.app N3).2 e he
            · rw [List.mem_singleton.1 he]; exact ⟨t, s, _, ht, hs, rfl, hw3, hop⟩
          · obtain ⟨n', o', u', j1, j2, jp, j3⟩ := I3
            have ne : ∀ j e, sget S3 j = some e → (∀ es, e ≠ .map es) → j ≠ im := by rintro j e h1 h2 rfl; rw [m3] at h1; injection h1 with h1; exact h2 _ h1.symm
            refine ⟨n', o', u', (sget_sset_ne _ (ne _ _ j1 (by intro es h; cases h))).trans j1, ?_, jp, ?_⟩
            · rcases j2 with j2 | ⟨a, b, c, e⟩
              · exact .inl j2
              · exact .inr ⟨a, b, c, (sget_sset_ne _ (ne _ _ e (by intro es h; cases h))).trans e⟩
            · rcases j3 with j3 | ⟨iu, a, b, c⟩
              · exact .inl j3
              · exact .inr ⟨iu, a, b, (sget_sset_ne _ b).trans c⟩
          · intro id cs hid e
            have e3 := P3 _ _ hid (P2 _ _ hid (P1 _ _ hid e))
            exact (sget_sset_ne _ (by rintro rfl; rw [m3] at e3; cases e3)).trans e3
          · intro e he
            rcases List.mem_append.1 he with he | he
            · rcases x2 e he with h | ⟨t', s', a, b, c, z⟩
              · rcases x1 e h with h | ⟨t', s', a, b, c, z⟩
                · exact .inl h
                · exact .inr ⟨t', s', a, b, c, by omega⟩
              · exact .inr ⟨t', s', a, b, c, by omega⟩
            · rw [List.mem_singleton.1 he]; exact .inr ⟨t, s, ht, hs, rfl, Nat.le_refl _⟩
        rw [hc1] at q1
        simp only [eRowK, eRow, eI] at hlk hmu hlk4
        rcases g' with g1 | ⟨g1, g2⟩
        · simp [f1, f2, g1, A2, A3, Aa, Ab, A6, bldV, hlk, e77a, e77b, hmin', e95a, e95b, q1, q2, q3, hA1.2.2.2.2, hA2.2.1, hA3.2.1, hmu, hA4, hlk4]
          exact fin
        · simp [f1, f2, g1, g2, A2, A3, Aa, Ab, A6, bldV, hlk, e77a, e77b, hmin', e95a, e95b, q1, q2, q3, hA1.2.2.2.2, hA2.2.1, hA3.2.1, hmu, hA4, hlk4]
          exact fin)
    exact ⟨u, M', done', S', e, h⟩

end Go.Proofs.YtjlmeikcfdanmaaGreatDoor.DE.V
