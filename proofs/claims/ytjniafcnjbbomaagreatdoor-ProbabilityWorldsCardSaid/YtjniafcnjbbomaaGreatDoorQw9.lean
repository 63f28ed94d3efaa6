/-
  SEVERAL TEXTS IN ONE (joined by tools/asm3.py of this repository): De20, De21.
-/
import Derived.Test.YtjniafcnjbbomaaGreatDoorQw8
import Derived.Tactics
set_option linter.unusedVariables false
set_option linter.unusedSimpArgs false
namespace Go.Proofs.YtjniafcnjbbomaaGreatDoor.DE
open Go

section
variable {P : Program} {dp : Nat → Option Fn} {F F' : Fix} {G G' : List Gh} {w w' : World} {S S' : Store} {a : Act} {fr fr' : List D} {o : Oper} {d : D} {cf : CallF}

theorem wanted_run {ops : Array Oper} {gd : Option (Nat × Bool)} {b : Bool} (hm : mGd ops.toList o.guard gd = true) (hf : Fr dp F G w a fr) (hw : DE.wanted fr gd = some b) : Region.wanted o (yielded ops a.tmps) = b := by
  unfold mGd at hm
  split at hm
  · rename_i h1
    simp only [DE.wanted, Option.some.injEq] at hw
    simp [Region.wanted, h1, hw]
  · rename_i j x t y h1
    simp only [Bool.and_eq_true, beq_iff_eq] at hm
    obtain ⟨rfl, hm⟩ := hm
    split at hm
    · rename_i op hop
      split at hm
      · rename_i u hu
        simp only [beq_iff_eq] at hm
        subst hm
        have hr := hf.rel u
        have hop' : ops[j]? = some op := by simpa using hop
        simp only [Region.wanted, h1]
        simp only [DE.wanted] at hw
        cases ht : a.tmps[u]? with
        | none =>
          have hy : yielded ops a.tmps j = none := by simp [yielded, hop', hu, ht]
          rw [hy]
          have hg : a.tmps.getD u undef = undef := by simp [ht]
          rw [hg] at hr
          split at hw
          · rename_i y hy'
            rw [hy'] at hr
            cases hr
          · simp only [Option.some.injEq] at hw
            subst hw
            rfl
          · cases hw
        | some v =>
          have hg : a.tmps.getD u undef = v := by simp [ht]
          rw [hg] at hr
          split at hw
          · rename_i y hy'
            rw [hy'] at hr
            cases hr
            have hy : yielded ops a.tmps j = some y := by simp [yielded, hop', hu, ht]
            rw [hy]
            simp only [Option.some.injEq] at hw
            rw [← hw]
            simp
          · rename_i hy'
            rw [hy'] at hr
            cases hr
            have hy : yielded ops a.tmps j = none := by simp [yielded, hop', hu, ht]
            rw [hy]
            simp only [Option.some.injEq] at hw
            rw [← hw]
            rfl
          · cases hw
      · cases hm
    · cases hm
  · cases hm

theorem rel_undef : Rel dp F G w undef (.tup []) := .tup #[] [] rfl fun j v d h => by simp at h

theorem put_defers (a : Act) (t : Option Nat) (v : Value) : (a.put t v).defers = a.defers := by
  cases t <;> rfl

theorem step_op {ops : Array Oper} {Q : Exit → Act → World → Prop} {K : Act → World → Prop} {dst : Option Nat} {gd : Option (Nat × Bool)} {r : R} {b : Bool} (hc : CallOk P dp cf) (hen : Enter P dp)
    (hm : mI P dp ops.toList o (.op dst gd r) = true) (hs : Sim dp F G w S) (hf : Fr dp F G w a fr) (hw : DE.wanted fr gd = some b)
    (hd : (b = true ∧ evR cf fr S r = some (d, S')) ∨ (b = false ∧ d = .tup [] ∧ S' = S))
    (hK : ∀ a' w' F' G', Sim dp F' G' w' S' → Ext F G w S F' G' w' S' → Fr dp F' G' w' a' (fsetO fr dst d) → a'.defers = a.defers → K a' w') :
    if Region.wanted o (yielded ops a.tmps) then o.wp P a w K Q ∨ (o.asks P a w ∧ LetsOut Q) else K (a.put o.dst undef) w := by
  simp only [mI, Bool.and_eq_true] at hm
  obtain ⟨⟨h1, h2⟩, h3⟩ := hm
  have hdst : o.dst = dst := by
    unfold mDst at h1
    split at h1
    · rename_i e; rw [e]
    · rename_i e; rw [e]; simpa using h1
    · cases h1
  rw [wanted_run h2 hf hw]
  rcases hd with ⟨rfl, he⟩ | ⟨rfl, rfl, rfl⟩
  · simp only [if_true]
    refine .inl (ok_R hc hen h3 hs hf he K Q fun v w' F' G' k1 k2 k3 => hK _ w' F' G' k1 k2 ?_ (put_defers _ _ _))
    rw [hdst]
    exact (hf.ext k2).put dst k3
  · simp only [Bool.false_eq_true, if_false]
    refine hK _ w F G hs (Ext.refl _ _ _ _) ?_ (put_defers _ _ _)
    rw [hdst]
    exact hf.put dst rel_undef

theorem step_op' {ops : Array Oper} {Q : Exit → Act → World → Prop} {K : Act → World → Prop} {dst : Option Nat} {gd : Option (Nat × Bool)} {r : R} {b : Bool} (hc : CallOk P dp cf) (hen : Enter P dp)
    (hm : mI P dp ops.toList o (.op dst gd r) = true) (hs : Sim dp F G w S) (hf : Fr dp F G w a fr) (hw : DE.wanted fr gd = some b)
    (hd : (b = true ∧ evR cf fr S r = some (d, S')) ∨ (b = false ∧ d = .tup [] ∧ S' = S))
    (hK : ∀ v w' F' G', Sim dp F' G' w' S' → Ext F G w S F' G' w' S' → Fr dp F' G' w' (a.put o.dst v) (fsetO fr dst d) → K (a.put o.dst v) w') :
    if Region.wanted o (yielded ops a.tmps) then o.wp P a w K Q ∨ (o.asks P a w ∧ LetsOut Q) else K (a.put o.dst undef) w := by
  simp only [mI, Bool.and_eq_true] at hm
  obtain ⟨⟨h1, h2⟩, h3⟩ := hm
  have hdst : o.dst = dst := by
    unfold mDst at h1
    split at h1
    · rename_i e; rw [e]
    · rename_i e; rw [e]; simpa using h1
    · cases h1
  rw [wanted_run h2 hf hw]
  rcases hd with ⟨rfl, he⟩ | ⟨rfl, rfl, rfl⟩
  · simp only [if_true]
    refine .inl (ok_R hc hen h3 hs hf he K Q fun v w' F' G' k1 k2 k3 => hK v w' F' G' k1 k2 ?_)
    rw [hdst]
    exact (hf.ext k2).put dst k3
  · simp only [Bool.false_eq_true, if_false]
    refine hK undef w F G hs (Ext.refl _ _ _ _) ?_
    rw [hdst]
    exact hf.put dst rel_undef

theorem evI_op {dst : Option Nat} {gd : Option (Nat × Bool)} {r : R} {fr1 : List D} {S1 : Store} (h : evI cf fr S (.op dst gd r) = some (fr1, S1)) :
    ∃ b d, DE.wanted fr gd = some b ∧ ((b = true ∧ evR cf fr S r = some (d, S1)) ∨ (b = false ∧ d = .tup [] ∧ S1 = S)) ∧ fr1 = fsetO fr dst d := by
  simp only [evI] at h
  split at h
  · rename_i hw
    cases hr : evR cf fr S r with
    | none => simp [hr] at h
    | some p =>
      simp only [hr, Option.map_some, Option.some.injEq, Prod.mk.injEq] at h
      obtain ⟨rfl, rfl⟩ := h
      exact ⟨true, p.1, hw, .inl ⟨rfl, rfl⟩, rfl⟩
  · rename_i hw
    simp only [Option.some.injEq, Prod.mk.injEq] at h
    obtain ⟨rfl, rfl⟩ := h
    exact ⟨false, .tup [], hw, .inr ⟨rfl, rfl, rfl⟩, rfl⟩
  · cases h

theorem ok_reg {ops : Array Oper} {Q : Exit → Act → World → Prop} (hc : CallOk P dp cf) (hen : Enter P dp) : ∀ (is : List I) (l : List Oper) {fr S fr' S' F G w a}, mReg P dp ops.toList l is = true → evIs cf fr S is = some (fr', S') →
    Sim dp F G w S → Fr dp F G w a fr → (∀ a' w' F' G', Sim dp F' G' w' S' → Ext F G w S F' G' w' S' → Fr dp F' G' w' a' fr' → a'.defers = a.defers → Q .normal a' w') → wpList P ops Q l a w
  | [], l, fr, S, fr', S', F, G, w, a, hm, he, hs, hf, hQ => by
    cases l with
    | nil =>
      simp only [evIs, Option.some.injEq, Prod.mk.injEq] at he
      obtain ⟨rfl, rfl⟩ := he
      exact hQ a w F G hs (Ext.refl _ _ _ _) hf rfl
    | cons o l => simp [mReg] at hm
  | i :: is, l, fr, S, fr', S', F, G, w, a, hm, he, hs, hf, hQ => by
    simp only [evIs] at he
    split at he
    · rename_i fr1 S1 hi
      cases i with
      | fz t =>
        have hm' : mReg P dp ops.toList l is = true := by cases l <;> simpa [mReg] using hm
        simp only [evI] at hi
        cases hz : fzD (fget fr t) S with
        | none => simp [hz] at hi
        | some p =>
          simp only [hz, Option.map_some, Option.some.injEq, Prod.mk.injEq] at hi
          obtain ⟨rfl, rfl⟩ := hi
          obtain ⟨F1, k1, k2, k3⟩ := ok_fz hs hf hz
          exact ok_reg hc hen is l hm' he k1 k3 fun a' w' F' G' q1 q2 q3 q4 => hQ a' w' F' G' q1 (k2.trans q2) q3 q4
      | op dst gd r =>
        cases l with
        | nil => simp [mReg] at hm
        | cons o l =>
          simp only [mReg, Bool.and_eq_true] at hm
          obtain ⟨b, d, hw, hd, rfl⟩ := evI_op hi
          unfold wpList
          exact step_op hc hen hm.1 hs hf hw hd fun a' w' F' G' k1 k2 k3 k4 =>
            ok_reg hc hen is l hm.2 he k1 k3 fun a'' w'' F'' G'' q1 q2 q3 q4 => hQ a'' w'' F'' G'' q1 (k2.trans q2) q3 (q4.trans k4)
      | ck t r =>
        cases l with
        | nil => simp [mReg] at hm
        | cons o l => simp [mReg, mI] at hm
    · cases he

theorem Sim.drew (hs : Sim dp F G w S) (hf : Fr dp F G w a fr) : Sim dp F G w.drew S ∧ Ext F G w S F G w.drew S ∧ Fr dp F G w.drew a fr := by
  have h := hs.step (w' := w.drew) (fun _ => False) hs.len (fun _ _ h => h) (fun _ _ h => h) (fun _ _ _ => rfl) (fun _ _ h => .inl h) (fun _ _ _ => rfl) (fun _ h => h.elim)
    (fun id e g h1 h2 => .inr (.inl ⟨h1, h2, fun h => h⟩)) (Nat.le_refl _) rfl rfl rfl
  exact ⟨h.1, h.2, hf.ext h.2⟩

/-- A new variable that the store does not bear yet. -/
structure Pend (P : Program) (F : Fix) (G : List Gh) (S : Store) (w0 w : World) (a : Act) (frL : List D) (z : List D) (t : Nat) : Prop where
  slot : fget frL t = .top
  blk : ∃ b vs T, (t < a.tmps.size → a.tmps.getD t undef = .pointer (some ⟨b, 0, none⟩)) ∧ w.heap[b]? = some (.cells vs T (0, 0)) ∧ mVL vs.toList z = true ∧ (∀ u ∈ vs.toList, u.oneCell' = true) ∧
    (∀ o, ¬ F b o) ∧ ¬ Owns S G b ∧ w0.heap.size ≤ b

/-- What holds while a region goes on in a drawn order: at place p, operation f, a new variable may come early. -/
structure Inv (P : Program) (dp : Nat → Option Fn) (F : Fix) (G : List Gh) (w0 : World) (S0 : Store) (ops : Array Oper) (xs : List Nat) (sto : Nat → Store) (fr0 fr' : List D) (ds : List Deferred) (p f t : Nat) (z : List D)
    (fin : Bool) (L : Array Bool) (a : Act) (w : World) : Prop where
  size : L.size = ops.size
  closed : ∀ (j : Nat) (o : Oper) (e : Edge), L.getD j false = true → ops.toList[j]? = some o → e ∈ o.after.toList → Region.binds .any e = true → L.getD e.on false = true
  defers : a.defers = ds
  st : ∃ k frL F1 G1, k ≤ xs.length ∧ (∀ (i x : Nat), xs[i]? = some x → i ≠ p → (L.getD x false = true ↔ i < k)) ∧ Sim dp F1 G1 w (sto k) ∧ Ext F G w0 S0 F1 G1 w (sto k) ∧ Fr dp F1 G1 w a frL ∧ frL.length = fr'.length ∧
    (∀ (j : Nat) (o : Oper) (t : Nat), L.getD j false = true → ¬ (j = f ∧ k ≤ p) → ops.toList[j]? = some o → o.dst = some t → fget frL t = fget fr' t) ∧
    (∀ t, (∀ (j : Nat) (o : Oper), L.getD j false = true → ops.toList[j]? = some o → o.dst ≠ some t) → fget frL t = fget fr0 t) ∧
    (p < k → p < xs.length → L.getD f false = true) ∧ (L.getD f false = true → f < ops.size → k ≤ p → (fin = true → k < p) ∧ Pend P F1 G1 (sto k) w0 w a frL z t)

theorem put_getD (a : Act) (dst : Option Nat) (v : Value) (t : Nat) (h : dst ≠ some t) : (a.put dst v).tmps.getD t undef = a.tmps.getD t undef ∧ (a.put dst v).tmps.size = a.tmps.size := by
  cases dst with
  | none => exact ⟨rfl, rfl⟩
  | some u =>
    have hne : u ≠ t := fun e => h (by rw [e])
    refine ⟨?_, by simp [Act.put]⟩
    simp only [Act.put, Array.getD_eq_getD_getElem?]
    rw [Array.getElem?_setIfInBounds_ne hne]

theorem Pend.keep {F1 F2 : Fix} {G1 G2 : List Gh} {S1 S2 : Store} {w0 w1 w2 : World} {a1 : Act} {frL : List D} {z : List D} {t : Nat} (h : Pend P F1 G1 S1 w0 w1 a1 frL z t) (e : Ext F1 G1 w1 S1 F2 G2 w2 S2)
    (dst : Option Nat) (v : Value) (d : D) (hd : dst ≠ some t) (dst' : Option Nat) (hd' : dst' ≠ some t) : Pend P F2 G2 S2 w0 w2 (a1.put dst v) (fsetO frL dst' d) z t := by
  obtain ⟨b, vs, T, h1, h2, h3, h4, h5, h6, h7⟩ := h.blk
  have hb := heap_lt h2
  obtain ⟨e1, e2⟩ := put_getD a1 dst v t hd
  refine ⟨(fget_fsetO _ _ _ _ hd').trans h.slot, b, vs, T, fun hl => ?_, (e.frame b hb h6).trans h2, h3, h4, fun o ho => ?_, fun ho => ?_, h7⟩
  · rw [e1]; exact h1 (by rw [← e2]; exact hl)
  · rcases e.fnew b o ho with q | q | q
    · exact h5 o q
    · exact h6 q
    · omega
  · rcases e.own b ho with q | q
    · exact h6 q
    · omega

/-- The store takes the variable in. -/
theorem Pend.attach {F1 : Fix} {G1 : List Gh} {S1 : Store} {w0 w1 : World} {a1 : Act} {frL : List D} {z : List D} {t : Nat} (h : Pend P F1 G1 S1 w0 w1 a1 frL z t) (hs : Sim dp F1 G1 w1 S1) (e : Ext F G w0 S F1 G1 w1 S1) (hf : Fr dp F1 G1 w1 a1 frL) :
    ∃ G2, Sim dp F1 G2 w1 (.box z :: S1) ∧ Ext F G w0 S F1 G2 w1 (.box z :: S1) ∧ Fr dp F1 G2 w1 a1 (fset frL t (.bx S1.length 0)) := by
  obtain ⟨b, vs, T, h1, h2, h3, h4, h5, h6, h7⟩ := h.blk
  have hG : ∀ id g, sget G1 id = some g → sget (⟨b, 0, 0⟩ :: G1) id = some g := fun id g h => by rw [sget_cons _ _ _ (sget_lt h)]; exact h
  have hmono : ∀ {v : Value} {d : D}, Rel dp F1 G1 w1 v d → Rel dp F1 (⟨b, 0, 0⟩ :: G1) w1 v d := fun h => h.mono (fun _ _ h => h) hG (fun _ _ _ => rfl)
  have htop : sget ((⟨b, 0, 0⟩ : Gh) :: G1) S1.length = some ⟨b, 0, 0⟩ := by rw [← hs.len, sget_top]
  have hcase : ∀ (id : Nat) (en : Ent) (g : Gh), sget (.box z :: S1) id = some en → sget ((⟨b, 0, 0⟩ : Gh) :: G1) id = some g → (id = S1.length ∧ en = .box z ∧ g = ⟨b, 0, 0⟩) ∨ (sget S1 id = some en ∧ sget G1 id = some g) := by
    intro id en g k1 k2
    by_cases hid : id = S1.length
    · subst hid
      rw [sget_top] at k1
      rw [htop] at k2
      injection k1 with k1
      injection k2 with k2
      exact .inl ⟨rfl, k1.symm, k2.symm⟩
    · right
      have hlt := sget_lt k1
      simp at hlt
      rw [sget_cons _ _ _ (by omega)] at k1
      rw [sget_cons _ _ _ (by rw [hs.len]; omega)] at k2
      exact ⟨k1, k2⟩
  have hcl : CellsLe dp F1 (⟨b, 0, 0⟩ :: G1) w1 vs z := by
    have hl := mVL_length h3
    exact ⟨by rw [← hl]; simp, fun j v d hv hd => mV1_rel (mVL_get h3 (by simpa using hv) hd)⟩
  refine ⟨⟨b, 0, 0⟩ :: G1, ⟨by simp [hs.len], hs.fcell, ?_, ?_⟩, ⟨e.fsub, fun id g h => hG id g (e.gsub id g h), e.cells, e.frame, ?_, e.fnew, e.size, e.os, e.tape, e.output⟩, ⟨by rw [fset_length]; exact hf.len, fun u => ?_⟩⟩
  · intro id en g k1 k2
    rcases hcase id en g k1 k2 with ⟨_, rfl, rfl⟩ | ⟨q1, q2⟩
    · exact ⟨vs, T, h2, ⟨hcl.1, Nat.zero_le _⟩, h5, h4, hcl.2⟩
    · by_cases hh : holds en
      · refine (hs.ent id en g q1 q2).keep (T := fun _ => False) hh hG (fun _ _ h => h) (fun _ _ _ => rfl) (fun _ _ h => .inl h) rfl (fun h => h)
      · exact EntOk.free hh
  · intro i j en en' g g' hij k1 k2 hh hh' q1 q2
    rcases hcase i en g k1 q1 with ⟨e1, _, e3⟩ | ⟨a1', a2⟩
    · rcases hcase j en' g' k2 q2 with ⟨e1', _, _⟩ | ⟨b1, b2⟩
      · exact absurd (e1.trans e1'.symm) hij
      · subst e3
        exact fun heq => h6 ⟨j, en', g', b1, hh', b2, heq.symm⟩
    · rcases hcase j en' g' k2 q2 with ⟨_, _, e3⟩ | ⟨b1, b2⟩
      · subst e3
        exact fun heq => h6 ⟨i, en, g, a1', hh, a2, heq⟩
      · exact hs.sep i j en en' g g' hij a1' b1 hh hh' a2 b2
  · rintro c ⟨id, en, g, k1, k2, k3, rfl⟩
    rcases hcase id en g k1 k3 with ⟨_, _, rfl⟩ | ⟨q1, q2⟩
    · exact .inr h7
    · exact e.own _ ⟨id, en, g, q1, k2, q2, rfl⟩
  · rw [fget_fset]
    split
    · rename_i hu
      obtain ⟨rfl, hu⟩ := hu
      rw [h1 (by rw [← hf.len]; exact hu)]
      exact .bx S1.length 0 ⟨b, 0, 0⟩ htop
    · exact hmono (hf.rel u)

theorem Inv.settle {w0 : World} {S0 : Store} {ops : Array Oper} {xs : List Nat} {sto : Nat → Store} {fr0 : List D} {ds : List Deferred} {p f t : Nat} {z : List D} {L : Array Bool} {a1 : Act} {w1 : World} {o : Oper}
    (h : Inv P dp F G w0 S0 ops xs sto fr0 fr' ds p f t z false L a1 w1) (hp : xs[p]? = some f) (ho : ops.toList[f]? = some o) (hot : o.dst = some t) (hst : sto (p + 1) = .box z :: sto p) (hfr : fget fr' t = if t < fr'.length then .bx (sto p).length 0 else .top)
    (honly : ∀ (j : Nat) (o : Oper), ops.toList[j]? = some o → o.dst = some t → j = f) : Inv P dp F G w0 S0 ops xs sto fr0 fr' ds p f t z true L a1 w1 := by
  obtain ⟨h1, h2, h3, k, frL, F1, G1, hk, hxk, k1, k2, k3, k4, k5, k6, k7, k8⟩ := h
  have hpl := (List.getElem?_eq_some_iff.1 hp).1
  have hfs : f < ops.size := by simpa using (List.getElem?_eq_some_iff.1 ho).1
  by_cases hc : L.getD f false = true ∧ k = p
  · obtain ⟨hL, rfl⟩ := hc
    obtain ⟨_, hpd⟩ := k8 hL hfs (Nat.le_refl _)
    obtain ⟨G2, q1, q2, q3⟩ := hpd.attach k1 k2 k3
    refine ⟨h1, h2, h3, k + 1, fset frL t (.bx (sto k).length 0), F1, G2, hpl, fun i x hx hi => ?_, by rw [hst]; exact q1, by rw [hst]; exact q2, q3, by rw [fset_length]; exact k4, ?_, ?_, fun _ _ => hL, fun _ _ h => by omega⟩
    · rw [hxk i x hx hi]; omega
    · intro j oj u hj _ hoj hu
      by_cases hut : u = t
      · subst hut
        rw [fget_fset, hfr, k4]
        by_cases hl : u < fr'.length
        · rw [if_pos ⟨rfl, hl⟩, if_pos hl]
        · rw [if_neg (fun h => hl h.2), if_neg hl, fget_ge _ _ (by rw [k4]; omega)]
      · rw [fget_fset, if_neg (fun h => hut h.1)]
        refine k5 j oj u hj (fun hh => ?_) hoj hu
        obtain ⟨rfl, _⟩ := hh
        rw [ho] at hoj
        injection hoj with hoj
        subst hoj
        rw [hot] at hu
        injection hu with hu
        exact hut hu.symm
    · intro u hu
      have hut : u ≠ t := fun e => hu f o hL ho (by rw [e]; exact hot)
      rw [fget_fset, if_neg (fun h => hut h.1)]
      exact k6 u hu
  · refine ⟨h1, h2, h3, k, frL, F1, G1, hk, hxk, k1, k2, k3, k4, k5, k6, k7, fun a b c => ⟨fun _ => ?_, (k8 a b c).2⟩⟩
    rcases Nat.lt_or_ge k p with q | q
    · exact q
    · exact absurd ⟨a, by omega⟩ hc

theorem Inv.full {w0 : World} {S0 : Store} {ops : Array Oper} {xs : List Nat} {sto : Nat → Store} {fr0 : List D} {ds : List Deferred} {p f t : Nat} {z : List D} {L : Array Bool} {a1 : Act} {w1 : World} (hf : ops.size ≤ f)
    (h : Inv P dp F G w0 S0 ops xs sto fr0 fr' ds p f t z false L a1 w1) : Inv P dp F G w0 S0 ops xs sto fr0 fr' ds p f t z true L a1 w1 := by
  obtain ⟨h1, h2, h3, k, frL, F1, G1, hk, hxk, k1, k2, k3, k4, k5, k6, k7, k8⟩ := h
  exact ⟨h1, h2, h3, k, frL, F1, G1, hk, hxk, k1, k2, k3, k4, k5, k6, k7, fun _ b _ => by omega⟩

theorem getD_eq_false {L : Array Bool} {j : Nat} (h : L.getD j true = false) : j < L.size ∧ L.getD j false = false := by
  rcases Nat.lt_or_ge j L.size with h' | h'
  · refine ⟨h', ?_⟩
    simp [h'] at h ⊢
    exact h
  · simp [Array.getElem?_eq_none h'] at h

theorem getD_set {L : Array Bool} {i : Nat} (hi : i < L.size) (j : Nat) (b : Bool) : (L.setIfInBounds i true).getD j b = if j = i then true else L.getD j b := by
  by_cases h : j = i
  · subst h; simp [hi]
  · rw [if_neg h]
    simp [Array.getElem?_setIfInBounds_ne (Ne.symm h)]

/-- What the check says of the place where the order is open. -/
structure Fl (ops : List Oper) (B xs : List Nat) (A : List (Nat × Nat × I)) (p f t : Nat) (z : List D) : Prop where
  chain : ∀ i x y, xs[i]? = some x → xs[i + 1]? = some y → i ≠ p → i + 1 ≠ p → bbit B x y = true
  cross : ∀ x y, 0 < p → xs[p - 1]? = some x → xs[p + 1]? = some y → bbit B x y = true
  next : ∀ y, xs[p + 1]? = some y → bbit B f y = true
  here : ∀ x, xs[p]? = some x → x = f
  arm : (xs.length ≤ p ∧ ops.length ≤ f) ∨ (xs[p]? = some f ∧ (p, f, I.op (some t) none (.alloc z)) ∈ A ∧ (∀ (j : Nat) (o : Oper), ops[j]? = some o → o.dst = some t → j = f) ∧ ∀ q ∈ A, q.2.1 = f ∨ t ∉ usO q.2.2 ∨ (isX q.2.2 = true ∧ p < q.1))

theorem fl_facts {ops : List Oper} {B xs : List Nat} {A : List (Nat × Nat × I)} (h : (match brk B 0 xs with
    | none => true
    | some p => chainB B (xs.eraseIdx p) && (match flFind A p with | some (f, t) => flOk ops B xs A p f t | none => false)) = true) : ∃ p f t z, (brk B 0 xs).getD xs.length = p ∧ Fl ops B xs A p f t z := by
  cases hb : brk B 0 xs with
  | none =>
    have hc := brk_none hb
    refine ⟨xs.length, ops.length, 0, [], rfl, fun i x y h1 h2 _ _ => chain_get hc h1 h2, fun x y _ _ h2 => ?_, fun y h2 => ?_, fun x h2 => ?_, .inl ⟨Nat.le_refl _, Nat.le_refl _⟩⟩
    · rw [List.getElem?_eq_none (by omega)] at h2; cases h2
    · rw [List.getElem?_eq_none (by omega)] at h2; cases h2
    · rw [List.getElem?_eq_none (by omega)] at h2; cases h2
  | some p =>
    rw [hb] at h
    simp only [Bool.and_eq_true] at h
    obtain ⟨hc, h⟩ := h
    split at h
    · rename_i f t hfl
      simp only [flOk, Bool.and_eq_true, decide_eq_true_eq, beq_iff_eq] at h
      obtain ⟨⟨⟨⟨⟨h1, h2⟩, h3⟩, h4⟩, h5⟩, h6⟩ := h
      have hpf : xs[p]? = some f := by rw [List.getElem?_eq_getElem h1]; rw [List.getD_eq_getElem?_getD, List.getElem?_eq_getElem h1] at h2; simpa using h2
      obtain ⟨⟨k, j, i⟩, hq, h7⟩ := List.any_eq_true.1 h4
      simp only [Bool.and_eq_true, beq_iff_eq] at h7
      obtain ⟨⟨rfl, rfl⟩, h8⟩ := h7
      obtain ⟨z, rfl⟩ : ∃ z, i = I.op (some t) none (.alloc z) := by
        unfold flT at h8
        split at h8
        · rename_i u z
          injection h8 with h8
          subst h8
          exact ⟨z, rfl⟩
        · cases h8
      refine ⟨k, j, t, z, rfl, fun i x y h1 h2 n1 n2 => ?_, fun x y h0 h1 h2 => ?_, fun y hy => ?_, fun x hx => ?_, .inr ⟨hpf, hq, fun q o ho hd => ?_, fun q hq => ?_⟩⟩
      · rcases Nat.lt_or_ge i k with q | q
        · have e1 : (xs.eraseIdx k)[i]? = some x := by rw [List.getElem?_eraseIdx_of_lt q]; exact h1
          have e2 : (xs.eraseIdx k)[i + 1]? = some y := by rw [List.getElem?_eraseIdx_of_lt (by omega)]; exact h2
          exact chain_get hc e1 e2
        · obtain ⟨m, rfl⟩ : ∃ m, i = m + 1 := ⟨i - 1, by omega⟩
          have e1 : (xs.eraseIdx k)[m]? = some x := by rw [List.getElem?_eraseIdx_of_ge (by omega)]; exact h1
          have e2 : (xs.eraseIdx k)[m + 1]? = some y := by rw [List.getElem?_eraseIdx_of_ge (by omega)]; exact h2
          exact chain_get hc e1 e2
      · obtain ⟨m, rfl⟩ : ∃ m, k = m + 1 := ⟨k - 1, by omega⟩
        have e1 : (xs.eraseIdx (m + 1))[m]? = some x := by rw [List.getElem?_eraseIdx_of_lt (by omega)]; exact h1
        have e2 : (xs.eraseIdx (m + 1))[m + 1]? = some y := by rw [List.getElem?_eraseIdx_of_ge (by omega)]; exact h2
        exact chain_get hc e1 e2
      · rw [hy] at h3; exact h3
      · rw [hpf] at hx; injection hx with hx; exact hx.symm
      · have hz : (o, q) ∈ ops.zipIdx := by
          rw [List.mem_iff_getElem?]
          refine ⟨q, ?_⟩
          simp [List.getElem?_zipIdx, ho]
        have := List.all_eq_true.1 h5 (o, q) hz
        simp [hd] at this
        exact this
      · have := List.all_eq_true.1 h6 q hq
        simp only [Bool.or_eq_true, beq_iff_eq, Bool.not_eq_true', Bool.and_eq_true, decide_eq_true_eq] at this
        rcases this with (h | h) | h
        · exact .inl h
        · exact .inr (.inl fun hm => by rw [List.contains_iff_mem.2 hm] at h; cases h)
        · exact .inr (.inr h)
    · cases h

theorem wp_dreg {id : Nat} {ops : Array Oper} {is : List (Nat × I)} {Q : Exit → Act → World → Prop} (hfol : P.follows .mixedOrders = true) (hc : CallOk P dp cf) (hen : Enter P dp) (hm : mDr P dp ops.toList is = true)
    (he : evIs cf fr S (snds is) = some (fr', S')) (hs : Sim dp F G w S) (hf : Fr dp F G w a fr)
    (hQ : ∀ a' w' F' G', Sim dp F' G' w' S' → Ext F G w S F' G' w' S' → Fr dp F' G' w' a' fr' → a'.defers = a.defers → Q .normal a' w') : (Code.region id ops true).wp P Q a w := by
  simp only [mDr, Bool.and_eq_true, List.all_eq_true] at hm
  obtain ⟨⟨⟨⟨⟨⟨hitems, hsep⟩, huses⟩, hedges⟩, hnd⟩, hchain⟩, hcov⟩ := hm
  have hasop : ∀ q ∈ is, asOp q.2 ≠ none ∧ ckOk q.2 = true := by
    intro q hq
    obtain ⟨h1, h2⟩ := hitems q hq
    refine ⟨fun hn => ?_, h2⟩
    unfold itemOk at h1
    split at h1
    · rw [hn] at h1; cases h1
    · cases h1
  obtain ⟨hlen, hunt, sto, e0, em, hhold⟩ := trace is he hsep hasop
  obtain ⟨p, f, t, z, hpbrk, hfl⟩ := fl_facts hchain
  rw [hpbrk] at hcov
  -- an item at its place
  have item : ∀ k j i, (k, j, i) ∈ ann 0 is → itemOk P dp ops.toList j i = true ∧ ∃ pre post frp, useOk ops.toList (befores ops.toList []) pre j i post = true ∧ is = pre ++ (j, i) :: post ∧
      (∀ u, noDst u pre = true → fget frp u = fget fr u) ∧ (∀ u, noDst u ((j, i) :: post) = true → fget frp u = fget fr' u) ∧ Hold cf frp fr' (sto k) (sto (k + if isX i then 1 else 0)) i := by
    intro k j i h
    obtain ⟨pre, post, h1, h2⟩ := mem_ann h
    rw [Nat.zero_add] at h2
    subst h2
    obtain ⟨frp, a1, a2, a3, a4⟩ := hhold pre j i post h1
    have := usesOk_get huses pre j i post h1
    exact ⟨(hitems (j, i) (by rw [h1]; simp)).1, pre, post, frp, by simpa using this, h1, a2, a3, a4⟩
  -- nothing writes what no operation has for its place
  have nowhere : ∀ u, (∀ (q : Nat) (oq : Oper), ops.toList[q]? = some oq → oq.dst ≠ some u) → ∀ q ∈ is, dstI q.2 ≠ some u := by
    intro u hno q hq hd
    have h1 := (hitems q hq).1
    unfold itemOk at h1
    split at h1
    · rename_i o ho
      split at h1
      · rename_i dst gd r hop
        simp only [mI, Bool.and_eq_true] at h1
        have hd2 := h1.1.1
        cases hq2 : q.2 with
        | op dst' gd' r' =>
          rw [hq2] at hop hd
          simp only [asOp, Option.some.injEq, Prod.mk.injEq] at hop
          simp only [dstI] at hd
          rw [← hop.1, hd] at hd2
          unfold mDst at hd2
          split at hd2
          · rename_i e; cases e
          · rename_i u v e1 e2
            injection e2 with e2
            subst e2
            simp only [beq_iff_eq] at hd2
            subst hd2
            exact hno _ o ho e1
          · cases hd2
        | fz u => rw [hq2] at hop; simp [asOp] at hop
        | ck u r' => rw [hq2] at hd; simp [dstI] at hd
      · cases h1
    · cases h1
  obtain ⟨hs1, hx1, hf1⟩ := hs.drew hf
  have hedge : ∀ (j : Nat) (o : Oper) (e : Edge), ops.toList[j]? = some o → e ∈ o.after.toList → Region.binds .any e = true → e.on < j := by
    intro j o e ho hE hb
    have h1 := (List.all_eq_true.1 hedges) (o, j) (by
      rw [List.mem_iff_getElem?]
      refine ⟨j, ?_⟩
      simp [List.getElem?_zipIdx] at ho ⊢
      exact ho)
    have h2 := List.all_eq_true.1 h1 e hE
    simpa [hb] using h2
  -- the variable whose time is open
  have settle : ∀ (L : Array Bool) (a1 : Act) (w1 : World), Inv P dp F G w S ops (xsOf is) sto fr fr' a.defers p f t z false L a1 w1 → Inv P dp F G w S ops (xsOf is) sto fr fr' a.defers p f t z true L a1 w1 := by
    intro L a1 w1 hI
    rcases hfl.arm with ⟨_, h⟩ | ⟨hp, hA, honly, _⟩
    · exact hI.full (by simpa using h)
    · obtain ⟨hio, pre, post, frp, huse, hisp, hpre, hpost, hh⟩ := item p f _ hA
      unfold itemOk at hio
      split at hio
      · rename_i o ho
        simp only [asOp, mI, Bool.and_eq_true] at hio
        have hdst : o.dst = some t := by
          have h1 := hio.1.1
          unfold mDst at h1
          split at h1
          · rename_i e; cases e
          · rename_i u v e1 e2; injection e2 with e2; subst e2; simp only [beq_iff_eq] at h1; subst h1; exact e1
          · cases h1
        obtain ⟨b, h1, h2, _⟩ := hh (some t) none (.alloc z) rfl
        simp only [DE.wanted, Option.some.injEq] at h1
        obtain ⟨d, h4, h5⟩ := h2 h1.symm
        simp only [evR, Option.some.injEq, Prod.mk.injEq, isX, kdR, if_true] at h4
        obtain ⟨rfl, h4⟩ := h4
        exact hI.settle hp ho hdst h4.symm (h5 t rfl) honly
      · cases hio
  -- the step
  have main : ∀ (fuel : Nat) (L : Array Bool) (a1 : Act) (w1 : World), (List.range ops.size).countP (fun j => !L.getD j true) ≤ fuel → Inv P dp F G w S ops (xsOf is) sto fr fr' a.defers p f t z true L a1 w1 → wpAny P .any ops Q fuel L a1 w1 := by
    have done : ∀ (L : Array Bool) (a1 : Act) (w1 : World), Inv P dp F G w S ops (xsOf is) sto fr fr' a.defers p f t z true L a1 w1 → Region.ready .any ops L = [] → Q .normal a1 w1 := by
      intro L a1 w1 hI hr
      have all : ∀ n j, j ≤ n → j < ops.size → L.getD j false = true := by
        intro n
        induction n with
        | zero =>
          intro j hj hlt
          have hj0 : j = 0 := by omega
          subst hj0
          rcases Bool.eq_false_or_eq_true (L.getD 0 true) with h | h
          · have : 0 < L.size := by rw [hI.size]; exact hlt
            simp [this] at h ⊢; exact h
          · exfalso
            have : 0 ∈ Region.ready .any ops L := mem_ready.2 ⟨h, ops[0], Array.getElem?_eq_getElem hlt, fun e he hb => by
              have := hedge 0 ops[0] e (by simp [hlt]) (by simpa using he) hb
              omega⟩
            rw [hr] at this
            cases this
        | succ n ih =>
          intro j hj hlt
          rcases Bool.eq_false_or_eq_true (L.getD j true) with h | h
          · have : j < L.size := by rw [hI.size]; exact hlt
            simp [this] at h ⊢; exact h
          · exfalso
            have : j ∈ Region.ready .any ops L := mem_ready.2 ⟨h, ops[j], Array.getElem?_eq_getElem hlt, fun e he hb => by
              have := hedge j ops[j] e (by simp [hlt]) (by simpa using he) hb
              exact ih e.on (by omega) (by omega)⟩
            rw [hr] at this
            cases this
      obtain ⟨k, frL, F1, G1, hk, hxk, k1, k2, k3, k4, k5, k6, k7, k8⟩ := hI.st
      have hkm : k = (xsOf is).length := by
        rcases Nat.lt_or_ge k (xsOf is).length with h | h
        · exfalso
          have hget := List.getElem?_eq_getElem h
          have hlt : (xsOf is)[k] < ops.size := by
            -- an item of the list
            have hmem : ∀ (l : List (Nat × I)) (x : Nat), x ∈ xsOf l → ∃ i, (x, i) ∈ l := by
              intro l
              induction l with
              | nil => intro x h; simp [xsOf] at h
              | cons q l ih =>
                intro x h
                simp only [xsOf] at h
                split at h
                · rcases List.mem_cons.1 h with h | h
                  · exact ⟨q.2, by rw [h]; simp⟩
                  · obtain ⟨i, hi⟩ := ih x h
                    exact ⟨i, by simp [hi]⟩
                · obtain ⟨i, hi⟩ := ih x h
                  exact ⟨i, by simp [hi]⟩
            obtain ⟨i, hi⟩ := hmem is _ (List.getElem_mem h)
            have h1 := (hitems _ hi).1
            unfold itemOk at h1
            split at h1
            · rename_i o ho
              have := (List.getElem?_eq_some_iff.1 ho).1
              simpa using this
            · cases h1
          by_cases hkp : k = p
          · subst hkp
            have hf' := hfl.here _ hget
            rw [hf'] at hlt
            have := (k8 (all _ _ (Nat.le_refl _) hlt) hlt (Nat.le_refl _)).1 rfl
            omega
          · have := (hxk k _ hget hkp).1 (all _ _ (Nat.le_refl _) hlt)
            omega
        · omega
      have hnf : ∀ (j : Nat) (o : Oper), ops.toList[j]? = some o → ¬ (j = f ∧ k ≤ p) := by
        rintro j o ho ⟨rfl, hkp⟩
        rcases hfl.arm with ⟨_, h⟩ | ⟨hp, _⟩
        · have := (List.getElem?_eq_some_iff.1 ho).1; omega
        · have := (List.getElem?_eq_some_iff.1 hp).1; omega
      rw [hkm, xs_len, em] at k1 k2
      refine hQ a1 w1 F1 G1 k1 k2 ⟨by rw [← k4]; exact k3.len, fun t => ?_⟩ hI.defers
      have hfin : fget frL t = fget fr' t := by
        by_cases hex : ∃ (j : Nat) (o : Oper), L.getD j false = true ∧ ops.toList[j]? = some o ∧ o.dst = some t
        · obtain ⟨j, o, h1, h2, h3⟩ := hex
          exact k5 j o t h1 (hnf j o h2) h2 h3
        · have hno : ∀ (j : Nat) (o : Oper), ops.toList[j]? = some o → o.dst ≠ some t := by
            intro j o h2 h3
            have hlt : j < ops.size := by simpa using (List.getElem?_eq_some_iff.1 h2).1
            exact hex ⟨j, o, all _ _ (Nat.le_refl _) hlt, h2, h3⟩
          rw [k6 t fun j o _ h2 => hno j o h2]
          exact (hunt t (nowhere t hno)).symm
      rw [← hfin]
      exact k3.rel t
    intro fuel
    induction fuel with
    | zero =>
      intro L a1 w1 hcnt hI
      have hr : Region.ready .any ops L = [] := by
        rw [List.eq_nil_iff_forall_not_mem]
        intro j hj
        obtain ⟨h1, o, ho, _⟩ := mem_ready.1 hj
        have hlt : j < ops.size := (Array.getElem?_eq_some_iff.1 ho).1
        have : 0 < (List.range ops.size).countP (fun j => !L.getD j true) := List.countP_pos_iff.2 ⟨j, List.mem_range.2 hlt, by rw [h1]; rfl⟩
        omega
      exact ⟨hr, done L a1 w1 hI hr⟩
    | succ fuel ih =>
      intro L a1 w1 hcnt hI
      refine ⟨done L a1 w1 hI, fun j hj => ?_⟩
      obtain ⟨hjun, oj, hoj, hjed⟩ := mem_ready.1 hj
      obtain ⟨hjL, hjf⟩ := getD_eq_false hjun
      have hlt : j < ops.size := (Array.getElem?_eq_some_iff.1 hoj).1
      have hoj' : ops.toList[j]? = some oj := by simpa using hoj
      have hbef : ∀ q, bbit (befores ops.toList []) q j = true → L.getD q false = true := fun q hq =>
        (bbit_bef hq).closed (L := fun q => L.getD q false = true) hI.closed fun o e h1 h2 h3 => by
          rw [hoj'] at h1; injection h1 with h1; subst h1
          exact hjed e (by simpa using h2) h3
      have hcnt' : (List.range ops.size).countP (fun q => !(L.setIfInBounds j true).getD q true) ≤ fuel := by
        have := count_lt (l := List.range ops.size) (x := j) (p := fun q => !L.getD q true) (p' := fun q => !(L.setIfInBounds j true).getD q true) (fun y _ hy => by
          simp only [getD_set hjL] at hy
          split at hy
          · cases hy
          · exact hy) (List.mem_range.2 hlt) (by simp only [hjun]; rfl) (by simp [getD_set hjL])
        omega
      obtain ⟨k, frL, F1, G1, hk, hxk, k1, k2, k3, k4, k5, k6, k7, k8⟩ := hI.st
      by_cases hjff : j = f
      · -- the variable whose time is open
        subst hjff
        rcases hfl.arm with ⟨_, h⟩ | ⟨hp, hA, honly, _⟩
        · have : ops.toList.length = ops.size := by simp
          omega
        · have hpl := (List.getElem?_eq_some_iff.1 hp).1
          have hkp : k ≤ p := by
            rcases Nat.lt_or_ge p k with q | q
            · have := k7 q hpl
              rw [hjf] at this; cases this
            · exact q
          obtain ⟨hio, _⟩ := item p j _ hA
          unfold itemOk at hio
          rw [hoj'] at hio
          simp only [asOp, mI, Bool.and_eq_true] at hio
          obtain ⟨⟨hd1, hd2⟩, hd3⟩ := hio
          have hdst : oj.dst = some t := by
            unfold mDst at hd1
            split at hd1
            · rename_i e; cases e
            · rename_i u v e1 e2; injection e2 with e2; subst e2; simp only [beq_iff_eq] at hd1; subst hd1; exact e1
            · cases hd1
          have hw1 := wanted_run (b := true) hd2 k3 rfl
          simp only [mR] at hd3
          split at hd3
          · rename_i T ho
            have hz := hd3
            unfold mZ at hz
            split at hz
            · rename_i ti hti
              split at hz
              · rename_i v hv
                simp only [Bool.and_eq_true, List.all_eq_true] at hz
                have hg := grown_alloc w1 (.cells v.cells T (0, 0))
                have hsx : Sim dp F1 G1 (w1.alloc (.cells v.cells T (0, 0))) (sto k) ∧ Ext F1 G1 w1 (sto k) F1 G1 (w1.alloc (.cells v.cells T (0, 0))) (sto k) :=
                  k1.step (fun _ => False) k1.len (fun _ _ h => h) (fun _ _ h => h) (fun b o hF => hg.cell (k1.fix_lt hF)) (fun _ _ h => .inl h) (fun b hb _ => by rw [hg.heap, Array.getElem?_push_lt hb, Array.getElem?_eq_getElem hb])
                    (fun _ h => h.elim) (fun id e g h1 h2 => .inr (.inl ⟨h1, h2, fun h => h⟩)) (by rw [hg.heap]; simp) hg.os hg.tape hg.output
                unfold wpOp
                rw [hoj]
                dsimp only
                rw [hw1]
                simp only [if_true]
                refine .inl ?_
                have hex : (execOp a1.eval oj).run P w1 = .ok (.value (.pointer (some ⟨w1.heap.size, 0, none⟩))) (w1.alloc (.cells v.cells T (0, 0))) := by
                  simp only [execOp, ho, Instr.alloc, zeroValue, typeInfo, hti, hv, newVar, newRow, Sem.run_bind, run_program, Sem.run_pure, Result.andThen, run_newObj_alloc]
                simp only [Oper.wp, hex, Oper.upon]
                refine ih _ _ _ hcnt' (settle _ _ _ ?_)
                refine ⟨by simp [hI.size], fun q o e h1 h2 h3 h4 => ?_, by rw [put_defers]; exact hI.defers, k, fset frL t .top, F1, G1, hk, fun i x hx hi => ?_, hsx.1, k2.trans hsx.2, ?_, by rw [fset_length]; exact k4, ?_, ?_, ?_, ?_⟩
                · rw [getD_set hjL] at h1 ⊢
                  split
                  · rfl
                  · split at h1
                    · rename_i hqj
                      subst hqj
                      rw [hoj'] at h2; injection h2 with h2; subst h2
                      exact hjed e (by simpa using h3) h4
                    · exact hI.closed q o e h1 h2 h3 h4
                · rw [getD_set hjL, ← hxk i x hx hi]
                  have : x ≠ j := ndB_ne hnd hx hp hi
                  simp [this]
                · rw [hdst]
                  exact (k3.ext hsx.2).put (some t) (.top _)
                · intro q o u h1 h2 h3 h4
                  have hqj : q ≠ j := fun e => h2 ⟨e, hkp⟩
                  rw [getD_set hjL, if_neg hqj] at h1
                  have hut : u ≠ t := fun e => hqj (honly q o h3 (by rw [h4, e]))
                  rw [fget_fset, if_neg (fun h => hut h.1)]
                  exact k5 q o u h1 (fun h => hqj h.1) h3 h4
                · intro u hu
                  have hut : u ≠ t := fun e => hu j oj (by rw [getD_set hjL]; simp) hoj' (by rw [hdst, e])
                  rw [fget_fset, if_neg (fun h => hut h.1)]
                  refine k6 u fun q o h1 h2 => hu q o ?_ h2
                  rw [getD_set hjL]
                  split
                  · rfl
                  · exact h1
                · intro h1 _
                  omega
                · intro _ _ _
                  refine ⟨(fun h => nomatch h), ?_, w1.heap.size, v.cells, T, fun hl => ?_, hg.new, hz.1, hz.2, fun o ho => ?_, ?_, k2.size⟩
                  · rw [fget_fset]
                    split
                    · rfl
                    · rename_i h
                      exact fget_ge _ _ (by have : ¬ t < frL.length := fun q => h ⟨rfl, q⟩; omega)
                  · rw [hdst] at hl ⊢
                    simp only [Act.put, Array.size_setIfInBounds] at hl
                    simp [Act.put, hl]
                  · have := k1.fix_lt ho
                    omega
                  · rintro ⟨id, e, g, h1, h2, h3, h4⟩
                    have := k1.lt h1 h3 h2
                    omega
              · cases hz
            · cases hz
          · cases hd3
      have hord : ∀ k', k ≤ k' → (k' ≤ p ∨ p < k) → ∀ q, ¬ (q = f ∧ k' ≤ p) → ¬ (q = f ∧ k ≤ p) := by
        intro k' h1 h2 q h3 h4
        exact h3 ⟨h4.1, by have := h4.2; omega⟩
      -- what is enough
      have enough : ∀ (k0 k' : Nat) (i : I) (pre post : List (Nat × I)) (frp : List D), itemOk P dp ops.toList j i = true → useOk ops.toList (befores ops.toList []) pre j i post = true → is = pre ++ (j, i) :: post →
          (∀ u, noDst u pre = true → fget frp u = fget fr u) → (∀ u, noDst u ((j, i) :: post) = true → fget frp u = fget fr' u) → k' ≤ (xsOf is).length → (∀ (q x : Nat), (xsOf is)[q]? = some x → q ≠ p → ((x = j ∨ L.getD x false = true) ↔ q < k')) → k ≤ k' → (k' ≤ p ∨ p < k) → (t ∉ usO i ∨ p < k ∨ ops.toList.length ≤ f) →
          (∀ dst gd r, asOp i = some (dst, gd, r) → ∃ b d, DE.wanted frp gd = some b ∧ ((b = true ∧ evR cf frp (sto k) r = some (d, sto k')) ∨ (b = false ∧ d = .tup [] ∧ sto k' = sto k)) ∧
            ∀ t, dst = some t → fget fr' t = if t < fr'.length then d else .top) →
          wpOp P ops Q j (wpAny P .any ops Q fuel (L.setIfInBounds j true)) a1 w1 := by
        intro k0 k' i pre post frp hio huse hisp hpre hpost hk' hxs hkk hpk htf hev
        unfold itemOk at hio
        rw [hoj'] at hio
        dsimp only at hio
        split at hio
        · rename_i dst gd r hop
          have hmI := hio
          obtain ⟨b, d, hw, hd, hfd⟩ := hev dst gd r hop
          -- the operands are as they were
          have hagree : ∀ u ∈ usG gd ++ usR r, fget frL u = fget frp u := by
            intro u hu
            have hu' : u ∈ usO i ∨ (∃ t r', i = .ck t r') := by
              cases i with
              | op dst' gd' r' =>
                simp only [asOp, Option.some.injEq, Prod.mk.injEq] at hop
                obtain ⟨rfl, rfl, rfl⟩ := hop
                exact .inl hu
              | fz t => simp [asOp] at hop
              | ck t r' =>
                simp only [asOp, Option.some.injEq, Prod.mk.injEq] at hop
                obtain ⟨rfl, rfl, rfl⟩ := hop
                exact .inl (by simpa [usG, usO] using hu)
            have hu'' : u ∈ usO i := by
              rcases hu' with h | ⟨t, r', rfl⟩
              · exact h
              · simp only [asOp, Option.some.injEq, Prod.mk.injEq] at hop
                obtain ⟨rfl, rfl, rfl⟩ := hop
                simpa [usG, usO] using hu
            have h1 := List.all_eq_true.1 huse u hu''
            have hzip : ∀ (q : Nat) (oq : Oper), ops.toList[q]? = some oq → (oq, q) ∈ ops.toList.zipIdx := by
              intro q oq h2
              rw [List.mem_iff_getElem?]
              refine ⟨q, ?_⟩
              simp [List.getElem?_zipIdx] at h2 ⊢
              exact h2
            simp only [Bool.or_eq_true, Bool.and_eq_true] at h1
            rcases h1 with ⟨hno, hall⟩ | ⟨hno, hall⟩
            · rw [hpost u hno]
              by_cases hex : ∃ (q : Nat) (oq : Oper), ops.toList[q]? = some oq ∧ oq.dst = some u
              · obtain ⟨q, oq, h2, h3⟩ := hex
                have h4 := List.all_eq_true.1 hall (oq, q) (hzip q oq h2)
                simp only [h3, bne_self_eq_false, Bool.false_or] at h4
                refine k5 q oq u (hbef q h4) (fun hh => ?_) h2 h3
                obtain ⟨rfl, hkp⟩ := hh
                rcases htf with h5 | h5 | h5
                · rcases hfl.arm with ⟨_, h6⟩ | ⟨hp, hA, honly, _⟩
                  · have := (List.getElem?_eq_some_iff.1 h2).1; omega
                  · obtain ⟨hio2, _⟩ := item p q _ hA
                    unfold itemOk at hio2
                    rw [h2] at hio2
                    simp only [asOp, mI, Bool.and_eq_true] at hio2
                    have hd1 := hio2.1.1
                    rw [h3] at hd1
                    simp only [mDst, beq_iff_eq] at hd1
                    subst hd1
                    exact h5 hu''
                · omega
                · have := (List.getElem?_eq_some_iff.1 h2).1; omega
              · have hno' : ∀ (q : Nat) (oq : Oper), ops.toList[q]? = some oq → oq.dst ≠ some u := fun q oq h2 h3 => hex ⟨q, oq, h2, h3⟩
                rw [k6 u fun q oq _ h2 => hno' q oq h2]
                exact (hunt u (nowhere u hno')).symm
            · rw [hpre u hno]
              refine k6 u fun q oq hq h2 h3 => ?_
              have h4 := List.all_eq_true.1 hall (oq, q) (hzip q oq h2)
              simp only [h3, bne_self_eq_false, Bool.false_or] at h4
              have := (bbit_bef h4).closed (L := fun q => L.getD q false = true) hI.closed fun o e a1 a2 a3 => hI.closed q o e hq a1 a2 a3
              rw [hjf] at this
              cases this
          have hw' : DE.wanted frL gd = some b := by
            rw [← hw]; exact wanted_congr fun t ht => hagree t (by simp [ht])
          have hd' : (b = true ∧ evR cf frL (sto k) r = some (d, sto k')) ∨ (b = false ∧ d = .tup [] ∧ sto k' = sto k) := by
            rcases hd with ⟨h1, h2⟩ | h
            · exact .inl ⟨h1, by rw [← h2]; exact evR_congr fun t ht => hagree t (by simp [ht])⟩
            · exact .inr h
          have hdst : oj.dst = dst := by
            simp only [mI, Bool.and_eq_true] at hmI
            have h1 := hmI.1.1
            unfold mDst at h1
            split at h1
            · rename_i e; rw [e]
            · rename_i e; rw [e]; simpa using h1
            · cases h1
          unfold wpOp
          rw [hoj]
          dsimp only
          refine step_op' hc hen hmI k1 k3 hw' hd' fun v w2 F2 G2 q1 q2 q3 => ih _ _ w2 hcnt' (settle _ _ _ ?_)
          refine ⟨by simp [hI.size], fun q o e h1 h2 h3 h4 => ?_, by rw [put_defers]; exact hI.defers, k', fsetO frL dst d, F2, G2, hk', ?_, q1, k2.trans q2, q3, by rw [fsetO_length]; exact k4, ?_, ?_, ?_, ?_⟩
          · rw [getD_set hjL] at h1 ⊢
            split
            · rfl
            · split at h1
              · rename_i hqj
                subst hqj
                rw [hoj'] at h2; injection h2 with h2; subst h2
                exact hjed e (by simpa using h3) h4
              · exact hI.closed q o e h1 h2 h3 h4
          · intro q x hx hq
            rw [← hxs q x hx hq, getD_set hjL]
            by_cases hxj : x = j
            · simp [hxj]
            · simp [hxj]
          · intro q o t h1 hqf h2 h3
            rw [getD_set hjL] at h1
            by_cases ht : dst = some t
            · rw [hfd t ht]
              subst ht
              rw [fget_fsetO_self, k4]
            · rw [fget_fsetO _ _ _ _ ht]
              split at h1
              · rename_i hqj
                subst hqj
                rw [hoj'] at h2; injection h2 with h2; subst h2
                exact absurd (hdst.symm.trans h3) ht
              · exact k5 q o t h1 (hord k' hkk hpk q hqf) h2 h3
          · intro t ht
            have hne : dst ≠ some t := by
              intro h
              exact ht j oj (by rw [getD_set hjL]; simp) hoj' (hdst.trans h)
            rw [fget_fsetO _ _ _ _ hne]
            refine k6 t fun q o h1 h2 => ht q o ?_ h2
            rw [getD_set hjL]
            split
            · rfl
            · exact h1
          · intro h1 h2
            rw [getD_set hjL]
            split
            · rfl
            · exact k7 (by omega) h2
          · intro h1 h2 h3
            rw [getD_set hjL, if_neg (fun e => hjff e.symm)] at h1
            obtain ⟨_, hpd⟩ := k8 h1 h2 (by omega)
            have hne : oj.dst ≠ some t := by
              intro h
              rcases hfl.arm with ⟨_, h6⟩ | ⟨_, _, honly, _⟩
              · have : ops.toList.length = ops.size := by simp
                omega
              · exact hjff (honly j oj hoj' h)
            exact ⟨(fun h => nomatch h), hpd.keep q2 _ v d hne dst (by rw [← hdst]; exact hne)⟩
        · cases hio
      have hcj := hcov j (List.mem_range.2 (by simpa using hlt))
      unfold covOk at hcj
      simp only [Bool.or_eq_true] at hcj
      -- an item that is no writing
      have still : ∀ (k0 : Nat) (i : I), (k0, j, i) ∈ ann 0 is → isX i = false → (∀ (p x : Nat), (xsOf is)[p]? = some x → x ≠ j) →
          (∀ frp dst gd r d, asOp i = some (dst, gd, r) → evR cf frp (sto k0) r = some (d, sto k0) → evR cf frp (sto k) r = some (d, sto k)) →
          wpOp P ops Q j (wpAny P .any ops Q fuel (L.setIfInBounds j true)) a1 w1 := by
        intro k0 i hann hx hnx hmove
        obtain ⟨hio, pre, post, frp, huse, hisp, hpre, hpost, hhold⟩ := item k0 j i hann
        refine enough k0 k i pre post frp hio huse hisp hpre hpost hk (fun q x hpx hq => ?_) (Nat.le_refl _) (by omega) ?_ fun dst gd r hop => ?_
        · rw [← hxk q x hpx hq]
          simp [hnx q x hpx]
        · rcases hfl.arm with ⟨_, h6⟩ | ⟨_, _, _, hus⟩
          · exact .inr (.inr h6)
          · rcases hus _ hann with h6 | h6 | h6
            · exact absurd h6 hjff
            · exact .inl h6
            · rw [hx] at h6; cases h6.1
        · obtain ⟨b, h1, h2, h3⟩ := hhold dst gd r hop
          simp only [hx, Bool.false_eq_true, if_false, Nat.add_zero] at h2 h3
          cases b with
          | true =>
            obtain ⟨d, h4, h5⟩ := h2 rfl
            exact ⟨true, d, h1, .inl ⟨rfl, hmove frp dst gd r d hop h4⟩, h5⟩
          | false => exact ⟨false, .tup [], h1, .inr ⟨rfl, rfl, rfl⟩, (h3 rfl).2⟩
      by_cases hx : ∃ q : Nat, (xsOf is)[q]? = some j
      · obtain ⟨q0, hp⟩ := hx
        have hpl := (List.getElem?_eq_some_iff.1 hp).1
        have hqp : q0 ≠ p := fun e => hjff (hfl.here _ (e ▸ hp))
        obtain ⟨i, hann, hxi⟩ := xs_ann 0 hp
        rw [Nat.zero_add] at hann
        have hkp : k = q0 := by
          have h1 : ¬ q0 < k := fun h => by
            have := (hxk q0 j hp hqp).2 h
            rw [hjf] at this
            cases this
          rcases Nat.eq_zero_or_pos q0 with h0 | h0
          · omega
          · have hlt' : q0 - 1 < (xsOf is).length := by omega
            have hg := List.getElem?_eq_getElem hlt'
            by_cases hq1 : q0 - 1 = p
            · have hnext : (xsOf is)[p + 1]? = some j := by rw [← hq1, show q0 - 1 + 1 = q0 by omega]; exact hp
              have hLf := hbef _ (hfl.next j hnext)
              have hfs : f < ops.size := by
                rcases hfl.arm with ⟨h6, _⟩ | ⟨h6, hA, _⟩
                · omega
                · obtain ⟨hio2, _⟩ := item p f _ hA
                  unfold itemOk at hio2
                  split at hio2
                  · rename_i ho2
                    simpa using (List.getElem?_eq_some_iff.1 ho2).1
                  · cases hio2
              rcases Nat.lt_or_ge p k with q | q
              · omega
              · have hkp := (k8 hLf hfs q).1 rfl
                exfalso
                have hlt2 : p - 1 < (xsOf is).length := by omega
                have hg2 := List.getElem?_eq_getElem hlt2
                have := (hxk _ _ hg2 (by omega)).1 (hbef _ (hfl.cross _ j (by omega) hg2 hnext))
                omega
            · have hb := hfl.chain (q0 - 1) _ _ hg (by rw [show q0 - 1 + 1 = q0 by omega]; exact hp) hq1 (by omega)
              have := (hxk _ _ hg hq1).1 (hbef _ hb)
              omega
        subst hkp
        obtain ⟨hio, pre, post, frp, huse, hisp, hpre, hpost, hhold'⟩ := item k j i hann
        refine enough k (k + 1) i pre post frp hio huse hisp hpre hpost hpl (fun q x hq hqp' => ?_) (Nat.le_succ _) (by omega) ?_ fun dst gd r hop => ?_
        · by_cases hqk : q = k
          · subst hqk
            rw [hp] at hq; injection hq with hq
            simp [hq]
          · have hne := ndB_ne hnd hq hp hqk
            have := hxk q x hq hqp'
            simp only [hne, false_or]
            rw [this]
            omega
        · rcases hfl.arm with ⟨_, h6⟩ | ⟨_, _, _, hus⟩
          · exact .inr (.inr h6)
          · rcases hus _ hann with h6 | h6 | h6
            · exact absurd h6 hjff
            · exact .inl h6
            · exact .inr (.inl h6.2)
        · obtain ⟨b, h1, h2, h3⟩ := hhold' dst gd r hop
          simp only [hxi, if_true] at h2 h3
          cases b with
          | true =>
            obtain ⟨d, h4, h5⟩ := h2 rfl
            exact ⟨true, d, h1, .inl ⟨rfl, h4⟩, h5⟩
          | false => exact ⟨false, .tup [], h1, .inr ⟨rfl, rfl, (h3 rfl).1⟩, (h3 rfl).2⟩
      · have hnx : ∀ (p x : Nat), (xsOf is)[p]? = some x → x ≠ j := fun p x h e => hx ⟨p, by rw [h, e]⟩
        have notX : ∀ (k0 : Nat) (i : I), (k0, j, i) ∈ ann 0 is → isX i = false := by
          intro k0 i h
          rcases Bool.eq_false_or_eq_true (isX i) with h1 | h1
          · obtain ⟨pre, post, h2, _⟩ := mem_ann h
            exact (hx ⟨nX pre, xs_get h2 h1⟩).elim
          · exact h1
        rcases hcj with hcj | hcj
        · obtain ⟨⟨k0, j', i⟩, hann, h1⟩ := List.any_eq_true.1 hcj
          simp only [Bool.and_eq_true, beq_iff_eq] at h1
          obtain ⟨rfl, h1⟩ := h1
          have hni := notX k0 i hann
          refine still k0 i hann hni hnx fun frp dst gd r d hop hev => ?_
          cases i with
          | op dst' gd' r' =>
            simp only [asOp, Option.some.injEq, Prod.mk.injEq] at hop
            obtain ⟨rfl, rfl, rfl⟩ := hop
            simp only [Bool.or_eq_true] at h1
            rcases h1 with h1 | h1
            · exact evR_any h1 hev (sto k)
            · have : isX (.op dst' gd' r') = kdX r' := rfl
              rw [this, h1] at hni
              cases hni
          | fz t => cases h1
          | ck t r' => cases h1
        · have h1 := List.all_eq_true.1 hcj k (List.mem_range.2 (by omega))
          simp only [Bool.or_eq_true] at h1
          rcases h1 with h1 | h1
          · exfalso
            obtain ⟨⟨x, pp⟩, hxp, h2⟩ := List.any_eq_true.1 h1
            have hget : (xsOf is)[pp]? = some x := by
              obtain ⟨q, hq⟩ := List.mem_iff_getElem?.1 hxp
              simp [List.getElem?_zipIdx] at hq
              obtain ⟨y, hy, e1, e2⟩ := hq
              rw [← e2, ← e1]
              exact hy
            simp only [Bool.or_eq_true, Bool.and_eq_true, Bool.not_eq_true', decide_eq_false_iff_not, bne_iff_ne, ne_eq] at h2
            rcases h2 with ⟨⟨h2, h3⟩, h4⟩ | ⟨h2, h3⟩
            · exact h3 ((hxk pp x hget (by simpa using h4)).1 (hbef x h2))
            · have hLx : L.getD x false = true := by
                by_cases hpp : pp = p
                · subst hpp
                  rw [hfl.here x hget]
                  exact k7 (by omega) (List.getElem?_eq_some_iff.1 hget).1
                · exact (hxk pp x hget hpp).2 (by omega)
              have := (bbit_bef h2).closed (L := fun q => L.getD q false = true) hI.closed fun o e a1 a2 a3 => hI.closed x o e hLx a1 a2 a3
              rw [hjf] at this
              cases this
          · obtain ⟨⟨k0, j', i⟩, hann, h2⟩ := List.any_eq_true.1 h1
            simp only [Bool.and_eq_true, beq_iff_eq] at h2
            obtain ⟨⟨rfl, rfl⟩, _⟩ := h2
            exact still k0 i hann (notX k0 i hann) hnx fun frp dst gd r d _ hev => hev
  have hrep : ∀ j, (Array.replicate ops.size false).getD j false = false := by
    intro j
    by_cases h : j < ops.size <;> simp [h]
  refine wp_region_any hfol (main ops.size _ a w.drew ?_ (settle _ _ _ ?_))
  · refine Nat.le_trans List.countP_le_length ?_
    simp
  · refine ⟨by simp, fun j o e h => ?_, rfl, 0, fr, F, G, Nat.zero_le _, fun i x _ _ => ?_, by rw [e0]; exact hs1, by rw [e0]; exact hx1, hf1, hlen.symm, fun j o t h => ?_, fun t _ => rfl, fun h => by omega, fun h => ?_⟩
    · rw [hrep] at h; cases h
    · rw [hrep]; simp
    · rw [hrep] at h; cases h
    · rw [hrep] at h; cases h

end

end Go.Proofs.YtjniafcnjbbomaaGreatDoor.DE

namespace Go.Proofs.YtjniafcnjbbomaaGreatDoor.DE
open Go

section
variable (P : Program) (dp : Nat → Option Fn)

/-- What is frozen ahead of a region is no operation of it. -/
def dropFz : List (Nat × I) → List (Nat × I)
  | [] => []
  | (j, i) :: l => match i with
    | .fz _ => dropFz l
    | i => (j, i) :: l

def mC : C → Code → Bool
  | .bad, _ => true
  | .skip, .skip => true
  | .reg is _, .region _ ops false => mReg P dp ops.toList ops.toList is
  | .dreg is _, .region _ ops true => mDr P dp ops.toList (dropFz is)
  | .seq a b, .seq c d => mC a c && mC b d
  | .cond x a b, .cond y c d => mA dp y x && mC a c && mC b d
  | .blk i a, .block j b => i == j && mC a b
  | .loop _ a, .loop b => mC a b
  | .exit i, .exit j => i == j
  | .ret, .ret => true
  | _, _ => false

def mRes : List ResultVar → List Res → Bool
  | [], [] => true
  | .tmp t :: l, .t n :: m => t == n && mRes l m
  | .cell a t :: l, .cell n k g :: m => a == n && mT P t k g && mRes l m
  | _, _ => false

def mFn (f : Fn) : Bool := match P.funcs[f.real]? with
  | some fn => fn.name != "runtime.NumGoroutine" && fn.ntmps == f.nt && mRes P fn.results.toList f.res && (match fn.body with | some c => mC P dp f.body c | none => false)
  | none => false

/-- The evaluator's table of functions is the program's. -/
def Good : Prop := ∀ g f, dp g = some f → mFn P dp f = true

end

section
variable {P : Program} {dp : Nat → Option Fn} {F F' : Fix} {G G' : List Gh} {w w' : World} {S S' : Store} {a : Act} {fr fr' : List D} {o : Oper} {d : D} {cf : CallF}

theorem Good.enter (h : Good P dp) : Enter P dp := by
  intro g f hg
  have hm := h g f hg
  unfold mFn at hm
  split at hm
  · rename_i fn hfn
    simp only [Bool.and_eq_true, bne_iff_ne, ne_eq] at hm
    refine ⟨fn, hfn, by simpa using hm.1.1.1, ?_⟩
    have := hm.2
    split at this
    · rename_i c hc; simp [hc]
    · cases this
  · cases hm

def toExit : Ex → Exit
  | .normal => .normal
  | .exit id => .exit id
  | .ret => .ret

theorem wp_loop_n {c : Code} {Q : Exit → Act → World → Prop} (J : Nat → Act → World → Prop) (round : ∀ n a w, J n a w → c.wp P (Exit.then (fun a' w' => ∃ m, m < n ∧ J m a' w') Q) a w) :
    ∀ (n : Nat) (a : Act) (w : World), J n a w → (Code.loop c).wp P Q a w := by
  have key : ∀ n a w, J n a w → ∀ (b : Frame) (k : List Item) (cs : List Frame), ∃ e a' w', Q e a' w' ∧ Arrives P (lone (b.at a (.code c :: .inLoop c :: k)) cs w) b k cs e a' w' := by
    intro n
    induction n using Nat.strongRecOn with
    | _ n ih =>
      intro a w hI b k cs
      obtain ⟨e, a₁, w₁, hq, harr⟩ := round n a w hI b (.inLoop c :: k) cs
      cases e with
      | normal =>
        obtain ⟨m, hlt, hI₁⟩ := hq
        obtain ⟨e₂, a₂, w₂, hq₂, harr₂⟩ := ih m hlt a₁ w₁ hI₁ b k cs
        exact ⟨e₂, a₂, w₂, hq₂, .of_steps (Steps.trans harr (.one step_inLoop)) harr₂⟩
      | exit id => exact ⟨_, a₁, w₁, hq, .pass (x := .inLoop c) rfl (fun _ _ => .inl (by simp)) harr⟩
      | goto l => exact ⟨_, a₁, w₁, hq, .pass (x := .inLoop c) rfl (fun _ _ => .inl (by simp)) harr⟩
      | ret => exact ⟨_, a₁, w₁, hq, .pass (x := .inLoop c) rfl (fun _ _ => .inl (by simp)) harr⟩
      | panic ch => exact ⟨_, a₁, w₁, hq, .pass (x := .inLoop c) rfl (fun _ _ => .inl (by simp)) harr⟩
      | outgrown => exact ⟨_, a₁, w₁, hq, .pass (x := .inLoop c) rfl (fun _ _ => .inl (by simp)) harr⟩
  intro n a w h b k cs
  obtain ⟨e, a', w', hq, harr⟩ := key n a w h b k cs
  exact ⟨e, a', w', hq, .of_steps (.one step_loop) harr⟩

theorem wp_dreg_fz {id : Nat} {ops : Array Oper} {Q : Exit → Act → World → Prop} (hfol : P.follows .mixedOrders = true) (hc : CallOk P dp cf) (hen : Enter P dp) : ∀ (is : List (Nat × I)) {F : Fix} {fr : List D} {S : Store}, mDr P dp ops.toList (dropFz is) = true →
    evIs cf fr S (snds is) = some (fr', S') → Sim dp F G w S → Fr dp F G w a fr →
    (∀ a' w' F' G', Sim dp F' G' w' S' → Ext F G w S F' G' w' S' → Fr dp F' G' w' a' fr' → a'.defers = a.defers → Q .normal a' w') → (Code.region id ops true).wp P Q a w
  | [], F, fr, S, hm, he, hs, hf, hQ => wp_dreg hfol hc hen hm he hs hf hQ
  | (j, .op dst gd r) :: l, F, fr, S, hm, he, hs, hf, hQ => wp_dreg hfol hc hen hm he hs hf hQ
  | (j, .ck t r) :: l, F, fr, S, hm, he, hs, hf, hQ => wp_dreg hfol hc hen hm he hs hf hQ
  | (j, .fz t) :: l, F, fr, S, hm, he, hs, hf, hQ => by
    simp only [snds, evIs, evI] at he
    cases hz : fzD (fget fr t) S with
    | none => simp [hz] at he
    | some p =>
      simp only [hz, Option.map_some] at he
      obtain ⟨F1, k1, k2, k3⟩ := ok_fz hs hf hz
      exact wp_dreg_fz hfol hc hen l hm he k1 k3 fun a' w' F' G' q1 q2 q3 q4 => hQ a' w' F' G' q1 (k2.trans q2) q3 q4

/-- What is said of the functions that are known as a whole is so. -/
def PrimOk (P : Program) (dp : Nat → Option Fn) : Prop :=
  ∀ g f args S r S', dp g = some f → primD f args S = some (r, S') → ∀ F G w vs, Sim dp F G w S → RelA dp F G w vs args →
    ∀ R : Ending → World → Prop, (∀ v w' F' G', Sim dp F' G' w' S' → Ext F G w S F' G' w' S' → Rel dp F' G' w' v r → R (.returned v) w') → Calls P f.real vs w R

theorem ok_code (hfol : P.follows .mixedOrders = true) (hc : CallOk P dp cf) (hen : Enter P dp) (n : Nat) : ∀ (c : C) (code : Code), mC P dp c code = true → ∀ {fr S ex fr' S'}, exec cf n c fr S = some (ex, fr', S') →
    ∀ ⦃F G w a Q⦄, Sim dp F G w S → Fr dp F G w a fr →
      (∀ a' w' F' G', Sim dp F' G' w' S' → Ext F G w S F' G' w' S' → Fr dp F' G' w' a' fr' → a'.defers = a.defers → Q (toExit ex) a' w') → code.wp P Q a w
  | .bad, _, _, _, _, _, _, _, he => by cases he
  | .skip, code, hm, fr, S, ex, fr', S', he => by
    intro F G w a Q hs hf hQ
    cases code <;> simp only [mC] at hm <;> try (cases hm; done)
    simp only [exec, Option.some.injEq, Prod.mk.injEq] at he
    obtain ⟨rfl, rfl, rfl⟩ := he
    exact _root_.Go.wp_skip (hQ a w F G hs (Ext.refl _ _ _ _) hf rfl)
  | .reg is kl, code, hm, fr, S, ex, fr', S', he => by
    intro F G w a Q hs hf hQ
    obtain ⟨id, ops, rfl⟩ : ∃ id ops, code = .region id ops false := by
      cases code
      case region id ops draw =>
        cases draw
        · exact ⟨id, ops, rfl⟩
        · simp [mC] at hm
      all_goals (simp [mC] at hm)
    simp only [mC] at hm
    simp only [exec] at he
    split at he
    · rename_i fr1 S1 hev
      simp only [Option.some.injEq, Prod.mk.injEq] at he
      obtain ⟨rfl, rfl, rfl⟩ := he
      exact wp_region_list (ok_reg hc hen is _ hm hev hs hf fun a' w' F' G' k1 k2 k3 k4 => hQ a' w' F' G' k1 k2 (k3.kill kl) k4)
    · cases he
  | .dreg is kl, code, hm, fr, S, ex, fr', S', he => by
    intro F G w a Q hs hf hQ
    obtain ⟨id, ops, rfl⟩ : ∃ id ops, code = .region id ops true := by
      cases code
      case region id ops draw =>
        cases draw
        · simp [mC] at hm
        · exact ⟨id, ops, rfl⟩
      all_goals (simp [mC] at hm)
    simp only [mC] at hm
    simp only [exec] at he
    split at he
    · rename_i fr1 S1 hev
      simp only [Option.some.injEq, Prod.mk.injEq] at he
      obtain ⟨rfl, rfl, rfl⟩ := he
      exact wp_dreg_fz hfol hc hen is hm hev hs hf fun a' w' F' G' k1 k2 k3 k4 => hQ a' w' F' G' k1 k2 (k3.kill kl) k4
    · cases he
  | .seq x y, code, hm, fr, S, ex, fr', S', he => by
    intro F G w a Q hs hf hQ
    cases code <;> simp only [mC, Bool.and_eq_true] at hm <;> try (cases hm; done)
    rename_i x' y'
    refine wp_seq ?_
    simp only [exec] at he
    split at he
    · rename_i fr1 S1 hev
      refine ok_code hfol hc hen n x x' hm.1 hev hs hf fun a' w' F' G' k1 k2 k3 k4 => ?_
      exact ok_code hfol hc hen n y y' hm.2 he k1 k3 fun a'' w'' F'' G'' q1 q2 q3 q4 => hQ a'' w'' F'' G'' q1 (k2.trans q2) q3 (q4.trans k4)
    · rename_i hno
      refine ok_code hfol hc hen n x x' hm.1 he hs hf fun a' w' F' G' k1 k2 k3 k4 => ?_
      have := hQ a' w' F' G' k1 k2 k3 k4
      cases ex with
      | normal => exact (hno fr' S' he).elim
      | exit id => exact this
      | ret => exact this
  | .cond q x y, code, hm, fr, S, ex, fr', S', he => by
    intro F G w a Q hs hf hQ
    cases code <;> simp only [mC, Bool.and_eq_true] at hm <;> try (cases hm; done)
    rename_i q' x' y'
    have hr := hf.eval hm.1.1
    simp only [exec] at he
    split at he
    · rename_i heq
      rw [heq] at hr
      generalize hv : a.eval q' = v at hr
      cases hr
      exact wp_cond_true hv (ok_code hfol hc hen n x x' hm.1.2 he hs hf hQ)
    · rename_i heq
      rw [heq] at hr
      generalize hv : a.eval q' = v at hr
      cases hr
      exact wp_cond_false hv (ok_code hfol hc hen n y y' hm.2 he hs hf hQ)
    · cases he
  | .blk id x, code, hm, fr, S, ex, fr', S', he => by
    intro F G w a Q hs hf hQ
    cases code <;> simp only [mC, Bool.and_eq_true, beq_iff_eq] at hm <;> try (cases hm; done)
    rename_i id' x'
    obtain ⟨rfl, hm⟩ := hm
    refine wp_block ?_
    simp only [exec] at he
    split at he
    · rename_i j fr1 S1 hev
      simp only [Option.some.injEq, Prod.mk.injEq] at he
      obtain ⟨rfl, rfl, rfl⟩ := he
      refine ok_code hfol hc hen n x x' hm hev hs hf fun a' w' F' G' k1 k2 k3 k4 => ?_
      have := hQ a' w' F' G' k1 k2 k3 k4
      simp only [toExit, Exit.inBlock]
      split
      · rename_i hj
        rw [if_pos hj] at this
        exact this
      · rename_i hj
        rw [if_neg hj] at this
        exact this
    · rename_i hno
      refine ok_code hfol hc hen n x x' hm he hs hf fun a' w' F' G' k1 k2 k3 k4 => ?_
      have := hQ a' w' F' G' k1 k2 k3 k4
      cases ex with
      | normal => exact this
      | exit j => exact (hno j fr' S' he).elim
      | ret => exact this
  | .loop kl x, code, hm, fr, S, ex, fr', S', he => by
    intro F G w a Q hs hf hQ
    cases code <;> simp only [mC] at hm <;> try (cases hm; done)
    rename_i x'
    simp only [exec] at he
    refine wp_loop_n (fun m a1 w1 => ∃ fr1 S1 F1 G1, iter (fun fr S => exec cf n x (fkill fr kl) S) m fr1 S1 = some (ex, fr', S') ∧ Sim dp F1 G1 w1 S1 ∧ Ext F G w S F1 G1 w1 S1 ∧ Fr dp F1 G1 w1 a1 fr1 ∧ a1.defers = a.defers)
      (fun m a1 w1 hJ => ?_) n a w ⟨fr, S, F, G, he, hs, Ext.refl _ _ _ _, hf, rfl⟩
    obtain ⟨fr1, S1, F1, G1, hit, k1, k2, k3, k4⟩ := hJ
    cases m with
    | zero => cases hit
    | succ m =>
      simp only [iter] at hit
      split at hit
      · rename_i fr2 S2 hev
        refine ok_code hfol hc hen n x x' hm hev k1 (k3.kill kl) fun a2 w2 F2 G2 q1 q2 q3 q4 => ?_
        exact ⟨m, Nat.lt_succ_self m, fr2, S2, F2, G2, hit, q1, k2.trans q2, q3, q4.trans k4⟩
      · rename_i hno
        refine ok_code hfol hc hen n x x' hm hit k1 (k3.kill kl) fun a2 w2 F2 G2 q1 q2 q3 q4 => ?_
        have := hQ a2 w2 F2 G2 q1 (k2.trans q2) q3 (q4.trans k4)
        cases ex with
        | normal => exact (hno fr' S' hit).elim
        | exit j => exact this
        | ret => exact this
  | .exit id, code, hm, fr, S, ex, fr', S', he => by
    intro F G w a Q hs hf hQ
    cases code <;> simp only [mC, beq_iff_eq] at hm <;> try (cases hm; done)
    subst hm
    simp only [exec, Option.some.injEq, Prod.mk.injEq] at he
    obtain ⟨rfl, rfl, rfl⟩ := he
    exact _root_.Go.wp_exit (hQ a w F G hs (Ext.refl _ _ _ _) hf rfl)
  | .ret, code, hm, fr, S, ex, fr', S', he => by
    intro F G w a Q hs hf hQ
    cases code <;> simp only [mC] at hm <;> try (cases hm; done)
    simp only [exec, Option.some.injEq, Prod.mk.injEq] at he
    obtain ⟨rfl, rfl, rfl⟩ := he
    exact _root_.Go.wp_ret (hQ a w F G hs (Ext.refl _ _ _ _) hf rfl)

/-! ## Functions -/

theorem ld_var {t : TypeId} {k : Nat} {g : Bool} {v : Value} {id p : Nat} (hT : mT P t k g = true) (hs : Sim dp F G w S) (hr : Rel dp F G w v (.bx id p)) (he : ldD S k g (.bx id p) = some d) :
    ∃ ad u, v = .pointer (some ad) ∧ (loadVar t ad).run P w = .ok u w ∧ Rel dp F G w u d := by
  cases hr with
  | bx _ _ gh hg =>
    simp only [ldD] at he
    split at he
    · rename_i cs hsg
      obtain ⟨vs, T, hh, ⟨hl, _⟩, _, _, hc⟩ := hs.ent id _ gh hsg hg
      have := rd_rel (P := P) (dp := dp) (F := F) (G := G) (w := w) (cs := cs) (k := k) (off := p) (g := g) (t := t) (blk := gh.blk) (base := 0) (c := fun m => vs.getD m undef) hT (fun m e hme => by
        have hlt : m < vs.size := Nat.lt_of_lt_of_le (List.getElem?_eq_some_iff.1 hme).1 hl
        have e1 : vs[m]? = some (vs.getD m undef) := by simp [Array.getD, hlt]
        exact ⟨by rw [Nat.zero_add, cell_box hh, e1], hc m _ e e1 hme⟩) he
      rw [Nat.zero_add] at this
      obtain ⟨u, hu, hru⟩ := this
      exact ⟨_, u, rfl, hu, hru⟩
    · cases he

def resF (a : Act) : ResultVar → Sem Value
  | .tmp t => pure (a.tmps.getD t undef)
  | .cell b t => do loadVar t (← asAddr (a.tmps.getD b undef))

theorem results_eq (fn : Func) (a : Act) : results fn a.tmps = (do let vs ← fn.results.mapM (resF a); pure (if h : vs.size = 1 then vs[0] else .tuple vs)) := by
  unfold results
  congr 1

theorem run_results (hs : Sim dp F G w S) (hf : Fr dp F G w a fr) : ∀ {rs : List ResultVar} {ms : List Res} {l : List D}, mRes P rs ms = true → resL fr S ms = some l →
    ∃ vs : List Value, (rs.mapM (resF a)).run P w = .ok vs w ∧ vs.length = l.length ∧
      ∀ (j : Nat) (v : Value) (d : D), vs[j]? = some v → l[j]? = some d → Rel dp F G w v d
  | [], [], l, _, he => by
    simp only [resL, Option.some.injEq] at he
    subst he
    exact ⟨[], rfl, rfl, fun j v d h => by simp at h⟩
  | [], _ :: _, _, hm, _ => by simp [mRes] at hm
  | .tmp t :: rs, [], _, hm, _ => by simp [mRes] at hm
  | .cell b t :: rs, [], _, hm, _ => by simp [mRes] at hm
  | .tmp t :: rs, .cell n k g :: ms, _, hm, _ => by simp [mRes] at hm
  | .cell b t :: rs, .t n :: ms, _, hm, _ => by simp [mRes] at hm
  | .tmp t :: rs, .t n :: ms, l, hm, he => by
    simp only [mRes, Bool.and_eq_true, beq_iff_eq] at hm
    obtain ⟨rfl, hm⟩ := hm
    simp only [resL, res1] at he
    cases hr : resL fr S ms with
    | none => simp [hr] at he
    | some m =>
      simp only [hr, Option.some.injEq] at he
      subst he
      obtain ⟨vs, h1, h2, h3⟩ := run_results hs hf hm hr
      refine ⟨a.tmps.getD t undef :: vs, ?_, by simp [h2], fun j v d hv hd => ?_⟩
      · simp only [List.mapM_cons, resF, Sem.run_bind, Sem.run_pure, Result.andThen, h1]
      · cases j with
        | zero => simp at hv hd; subst hv hd; simpa using hf.rel t
        | succ j => exact h3 j v d (by simpa using hv) (by simpa using hd)
  | .cell b t :: rs, .cell n k g :: ms, l, hm, he => by
    simp only [mRes, Bool.and_eq_true, beq_iff_eq] at hm
    obtain ⟨⟨rfl, hT⟩, hm⟩ := hm
    simp only [resL] at he
    split at he
    · rename_i d m hd hr
      simp only [Option.some.injEq] at he
      subst he
      obtain ⟨vs, h1, h2, h3⟩ := run_results hs hf hm hr
      simp only [res1] at hd
      split at hd
      · rename_i id p heq
        have hrel := hf.rel b
        rw [heq] at hrel
        obtain ⟨ad, u, q1, q2, q3⟩ := ld_var hT hs hrel hd
        refine ⟨u :: vs, ?_, by simp [h2], fun j v d hv hd => ?_⟩
        · have qa : (asAddr (a.tmps.getD b undef)).run P w = .ok ad w := by rw [q1]; rfl
          simp only [List.mapM_cons, resF, Sem.run_bind, qa, Sem.run_pure, Result.andThen, q2, h1]
        · cases j with
          | zero => simp at hv hd; subst hv hd; exact q3
          | succ j => exact h3 j v d (by simpa using hv) (by simpa using hd)
      · cases hd
    · cases he

theorem run_res {fn : Func} {f : Fn} {l : List D} (hs : Sim dp F G w S) (hf : Fr dp F G w a fr) (hm : mRes P fn.results.toList f.res = true) (he : resL fr S f.res = some l) :
    ∃ v, (results fn a.tmps).run P w = .ok v w ∧ Rel dp F G w v (resD l) := by
  obtain ⟨vs, h1, h2, h3⟩ := run_results hs hf hm he
  have hmap : (fn.results.mapM (resF a)).run P w = .ok vs.toArray w := by
    rw [Array.mapM_eq_mapM_toList, Sem.run_map, h1]
    rfl
  refine ⟨if h : vs.toArray.size = 1 then vs.toArray[0] else .tuple vs.toArray, ?_, ?_⟩
  · rw [results_eq, Sem.run_bind, hmap]
    rfl
  · by_cases h : vs.length = 1
    · match vs, l, h, h2 with
      | [v], [d], _, _ =>
        simp [resD]
        exact h3 0 v d rfl rfl
    · rw [dif_neg (by simpa using h)]
      have : resD l = .tup l := by
        match l, h2 with
        | [], _ => rfl
        | [d], h2 => exact absurd h2 (by simpa using h)
        | _ :: _ :: _, _ => rfl
      rw [this]
      exact .tup _ _ (by simpa using h2) fun j v d hv hd => h3 j v d (by simpa using hv) hd

theorem fget_append (l m : List D) (t : Nat) : fget (l ++ m) t = if t < l.length then fget l t else fget m (t - l.length) := by
  induction l generalizing t with
  | nil => simp
  | cons x l ih =>
    cases t with
    | zero => simp [fget]
    | succ t =>
      simp only [List.cons_append, fget, ih, List.length_cons]
      by_cases h : t < l.length
      · rw [if_pos h, if_pos (by omega)]
      · rw [if_neg h, if_neg (by omega)]; congr 1; omega

theorem fget_rep (n t : Nat) : fget (List.replicate n D.top) t = .top := by
  induction n generalizing t with
  | zero => rfl
  | succ n ih =>
    cases t with
    | zero => rfl
    | succ t => simp only [List.replicate_succ, fget, ih]

theorem call_ok (hfol : P.follows .mixedOrders = true) (hgood : Good P dp) (hprim : PrimOk P dp) : ∀ n, CallOk P dp (callN dp n) := by
  have hen := hgood.enter
  intro n
  induction n with
  | zero =>
    intro g f args S r S' _ he
    cases he
  | succ n ih =>
    intro g f args S r S' hg he F G w vs hs hv R hR
    simp only [callN, hg] at he
    split at he
    · rename_i hnp
      have hm := hgood g f hg
      unfold mFn at hm
      split at hm
      · rename_i fn hfn
        simp only [Bool.and_eq_true, beq_iff_eq] at hm
        obtain ⟨⟨⟨_, hnt⟩, hres⟩, hbody⟩ := hm
        split at hbody
        · rename_i code hcode
          refine calls_of_wp hfn hcode ?_
          have hfr : Fr dp F G w { tmps := vs ++ Array.replicate (fn.ntmps - vs.size) undef, defers := [] } (frame0 f args) := by
            refine ⟨?_, fun t => ?_⟩
            · simp [frame0, hv.1, hnt, hnp.1]
            · simp only [frame0, fget_append]
              by_cases ht : t < args.length
              · rw [if_pos ht]
                have ht' : t < vs.size := by rw [hv.1]; exact ht
                have e1 : (vs ++ Array.replicate (fn.ntmps - vs.size) undef).getD t undef = vs[t] := by
                  simp [Array.getElem?_append, ht']
                rw [e1, fget_getElem args t args[t] (List.getElem?_eq_getElem ht)]
                exact hv.2 t _ _ (Array.getElem?_eq_getElem ht') (List.getElem?_eq_getElem ht)
              · rw [if_neg ht, fget_rep]
                exact .top _
          have fin : ∀ (fr' : List D) (S1 : Store) (l : List D), resL fr' S1 f.res = some l → r = resD l → S' = S1 → ∀ a' w' F' G', Sim dp F' G' w' S1 → Ext F G w S F' G' w' S1 → Fr dp F' G' w' a' fr' → a'.defers = [] →
              a'.defers = [] ∧ ∃ v, (results fn a'.tmps).run P w' = .ok v w' ∧ R (.returned v) w' := by
            intro fr' S1 l h1 h2 h3 a' w' F' G' k1 k2 k3 k4
            subst h2 h3
            obtain ⟨v, q1, q2⟩ := run_res k1 k3 hres h1
            exact ⟨k4, v, q1, hR v w' F' G' k1 k2 q2⟩
          unfold finish at he
          split at he
          · rename_i fr' S1 hex
            cases hl : resL fr' S1 f.res with
            | none => simp [hl] at he
            | some l =>
              simp only [hl, Option.map_some, Option.some.injEq, Prod.mk.injEq] at he
              exact ok_code hfol ih hen n f.body code hbody hex hs hfr fun a' w' F' G' k1 k2 k3 k4 => fin fr' S1 l hl he.1.symm he.2.symm a' w' F' G' k1 k2 k3 k4
          · rename_i fr' S1 hex
            cases hl : resL fr' S1 f.res with
            | none => simp [hl] at he
            | some l =>
              simp only [hl, Option.map_some, Option.some.injEq, Prod.mk.injEq] at he
              exact ok_code hfol ih hen n f.body code hbody hex hs hfr fun a' w' F' G' k1 k2 k3 k4 => fin fr' S1 l hl he.1.symm he.2.symm a' w' F' G' k1 k2 k3 k4
          · cases he
        · cases hbody
      · cases hm
    · exact hprim g f args S r S' hg he F G w vs hs hv R hR

/-- What the evaluator says of a call, the program does. -/
theorem call_sound (hfol : P.follows .mixedOrders = true) (hgood : Good P dp) (hprim : PrimOk P dp) : CallOk P dp (call dp) := by
  intro g f args S r S' hg he
  obtain ⟨n, hn⟩ := (call_iff g args S (r, S')).1 he
  exact call_ok hfol hgood hprim n g f args S r S' hg hn

end

end Go.Proofs.YtjniafcnjbbomaaGreatDoor.DE
