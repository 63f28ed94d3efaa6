/-
  REGIONS, CODE, FUNCTIONS: what the evaluator says, the program does.
-/
import Derived.Test.YtjlmeikcfdanmaaGreatDoorDe19
import Derived.Tactics
namespace Go.Proofs.YtjlmeikcfdanmaaGreatDoor.DE
open Go

section
variable {P : Program} {dp : Nat → Option Fn} {F F' : Fix} {G G' : List Gh} {w w' : World} {S S' : Store} {a : Act} {fr fr' : List D} {o : Oper} {d : D} {cf : CallF}

theorem wanted_run {ops : Array Oper} {gd : Option (Nat × Bool)} {b : Bool} (hm : mGd ops.toList o.guard gd = true) (hf : Fr dp F G w a fr) (hw : DE.wanted fr gd = some b) : Region.wanted o (yielded ops a.tmps) = b := by
  unfold mGd at hm
  split at hm
  · rename_i h1
    simp only [DE.wanted, Option.some.injEq] at hw
    simp [Region.wanted, h1, hw]
  · rename_i j x t y h1
    simp only [Bool.and_eq_true, beq_iff_eq] at hm
    obtain ⟨rfl, hm⟩ := hm
    split at hm
    · rename_i op hop
      split at hm
      · rename_i u hu
        simp only [beq_iff_eq] at hm
        subst hm
        have hr := hf.rel u
        have hop' : ops[j]? = some op := by simpa using hop
        simp only [Region.wanted, h1]
        simp only [DE.wanted] at hw
        cases ht : a.tmps[u]? with
        | none =>
          have hy : yielded ops a.tmps j = none := by simp [yielded, hop', hu, ht]
          rw [hy]
          have hg : a.tmps.getD u undef = undef := by simp [ht]
          rw [hg] at hr
          split at hw
          · rename_i y hy'
            rw [hy'] at hr
            cases hr
          · simp only [Option.some.injEq] at hw
            subst hw
            rfl
          · cases hw
        | some v =>
          have hg : a.tmps.getD u undef = v := by simp [ht]
          rw [hg] at hr
          split at hw
          · rename_i y hy'
            rw [hy'] at hr
            cases hr
            have hy : yielded ops a.tmps j = some y := by simp [yielded, hop', hu, ht]
            rw [hy]
            simp only [Option.some.injEq] at hw
            rw [← hw]
            simp
          · rename_i hy'
            rw [hy'] at hr
            cases hr
            have hy : yielded ops a.tmps j = none := by simp [yielded, hop', hu, ht]
            rw [hy]
            simp only [Option.some.injEq] at hw
            rw [← hw]
            rfl
          · cases hw
      · cases hm
    · cases hm
  · cases hm

theorem rel_undef : Rel dp F G w undef (.tup []) := .tup #[] [] rfl fun j v d h => by simp at h

theorem put_defers (a : Act) (t : Option Nat) (v : Value) : (a.put t v).defers = a.defers := by
  cases t <;> rfl

theorem step_op {ops : Array Oper} {Q : Exit → Act → World → Prop} {K : Act → World → Prop} {dst : Option Nat} {gd : Option (Nat × Bool)} {r : R} {b : Bool} (hc : CallOk P dp cf) (hen : Enter P dp)
    (hm : mI P dp ops.toList o (.op dst gd r) = true) (hs : Sim dp F G w S) (hf : Fr dp F G w a fr) (hw : DE.wanted fr gd = some b)
    (hd : (b = true ∧ evR cf fr S r = some (d, S')) ∨ (b = false ∧ d = .tup [] ∧ S' = S))
    (hK : ∀ a' w' F' G', Sim dp F' G' w' S' → Ext F G w S F' G' w' S' → Fr dp F' G' w' a' (fsetO fr dst d) → a'.defers = a.defers → K a' w') :
    if Region.wanted o (yielded ops a.tmps) then o.wp P a w K Q ∨ (o.asks P a w ∧ LetsOut Q) else K (a.put o.dst undef) w := by
  simp only [mI, Bool.and_eq_true] at hm
  obtain ⟨⟨h1, h2⟩, h3⟩ := hm
  have hdst : o.dst = dst := by
    unfold mDst at h1
    split at h1
    · rename_i e; rw [e]
    · rename_i e; rw [e]; simpa using h1
    · cases h1
  rw [wanted_run h2 hf hw]
  rcases hd with ⟨rfl, he⟩ | ⟨rfl, rfl, rfl⟩
  · simp only [if_true]
    refine .inl (ok_R hc hen h3 hs hf he K Q fun v w' F' G' k1 k2 k3 => hK _ w' F' G' k1 k2 ?_ (put_defers _ _ _))
    rw [hdst]
    exact (hf.ext k2).put dst k3
  · simp only [Bool.false_eq_true, if_false]
    refine hK _ w F G hs (Ext.refl _ _ _ _) ?_ (put_defers _ _ _)
    rw [hdst]
    exact hf.put dst rel_undef

theorem evI_op {dst : Option Nat} {gd : Option (Nat × Bool)} {r : R} {fr1 : List D} {S1 : Store} (h : evI cf fr S (.op dst gd r) = some (fr1, S1)) :
    ∃ b d, DE.wanted fr gd = some b ∧ ((b = true ∧ evR cf fr S r = some (d, S1)) ∨ (b = false ∧ d = .tup [] ∧ S1 = S)) ∧ fr1 = fsetO fr dst d := by
  simp only [evI] at h
  split at h
  · rename_i hw
    cases hr : evR cf fr S r with
    | none => simp [hr] at h
    | some p =>
      simp only [hr, Option.map_some, Option.some.injEq, Prod.mk.injEq] at h
      obtain ⟨rfl, rfl⟩ := h
      exact ⟨true, p.1, hw, .inl ⟨rfl, rfl⟩, rfl⟩
  · rename_i hw
    simp only [Option.some.injEq, Prod.mk.injEq] at h
    obtain ⟨rfl, rfl⟩ := h
    exact ⟨false, .tup [], hw, .inr ⟨rfl, rfl, rfl⟩, rfl⟩
  · cases h

theorem ok_reg {ops : Array Oper} {Q : Exit → Act → World → Prop} (hc : CallOk P dp cf) (hen : Enter P dp) : ∀ (is : List I) (l : List Oper) {fr S fr' S' F G w a}, mReg P dp ops.toList l is = true → evIs cf fr S is = some (fr', S') →
    Sim dp F G w S → Fr dp F G w a fr → (∀ a' w' F' G', Sim dp F' G' w' S' → Ext F G w S F' G' w' S' → Fr dp F' G' w' a' fr' → a'.defers = a.defers → Q .normal a' w') → wpList P ops Q l a w
  | [], l, fr, S, fr', S', F, G, w, a, hm, he, hs, hf, hQ => by
    cases l with
    | nil =>
      simp only [evIs, Option.some.injEq, Prod.mk.injEq] at he
      obtain ⟨rfl, rfl⟩ := he
      exact hQ a w F G hs (Ext.refl _ _ _ _) hf rfl
    | cons o l => simp [mReg] at hm
  | i :: is, l, fr, S, fr', S', F, G, w, a, hm, he, hs, hf, hQ => by
    simp only [evIs] at he
    split at he
    · rename_i fr1 S1 hi
      cases i with
      | fz t =>
        have hm' : mReg P dp ops.toList l is = true := by cases l <;> simpa [mReg] using hm
        simp only [evI] at hi
        cases hz : fzD (fget fr t) S with
        | none => simp [hz] at hi
        | some p =>
          simp only [hz, Option.map_some, Option.some.injEq, Prod.mk.injEq] at hi
          obtain ⟨rfl, rfl⟩ := hi
          obtain ⟨F1, k1, k2, k3⟩ := ok_fz hs hf hz
          exact ok_reg hc hen is l hm' he k1 k3 fun a' w' F' G' q1 q2 q3 q4 => hQ a' w' F' G' q1 (k2.trans q2) q3 q4
      | op dst gd r =>
        cases l with
        | nil => simp [mReg] at hm
        | cons o l =>
          simp only [mReg, Bool.and_eq_true] at hm
          obtain ⟨b, d, hw, hd, rfl⟩ := evI_op hi
          unfold wpList
          exact step_op hc hen hm.1 hs hf hw hd fun a' w' F' G' k1 k2 k3 k4 =>
            ok_reg hc hen is l hm.2 he k1 k3 fun a'' w'' F'' G'' q1 q2 q3 q4 => hQ a'' w'' F'' G'' q1 (k2.trans q2) q3 (q4.trans k4)
      | ck t r =>
        cases l with
        | nil => simp [mReg] at hm
        | cons o l => simp [mReg, mI] at hm
    · cases he

theorem Sim.drew (hs : Sim dp F G w S) (hf : Fr dp F G w a fr) : Sim dp F G w.drew S ∧ Ext F G w S F G w.drew S ∧ Fr dp F G w.drew a fr := by
  have h := hs.step (w' := w.drew) (fun _ => False) hs.len (fun _ _ h => h) (fun _ _ h => h) (fun _ _ _ => rfl) (fun _ _ h => .inl h) (fun _ _ _ => rfl) (fun _ h => h.elim)
    (fun id e g h1 h2 => .inr (.inl ⟨h1, h2, fun h => h⟩)) (Nat.le_refl _) rfl rfl rfl
  exact ⟨h.1, h.2, hf.ext h.2⟩

/-- What holds while a region goes on in a drawn order. -/
structure Inv (P : Program) (dp : Nat → Option Fn) (F : Fix) (G : List Gh) (w0 : World) (S0 : Store) (ops : Array Oper) (xs : List Nat) (sto : Nat → Store) (fr0 fr' : List D) (ds : List Deferred)
    (L : Array Bool) (a : Act) (w : World) : Prop where
  size : L.size = ops.size
  closed : ∀ (j : Nat) (o : Oper) (e : Edge), L.getD j false = true → ops.toList[j]? = some o → e ∈ o.after.toList → Region.binds .any e = true → L.getD e.on false = true
  defers : a.defers = ds
  st : ∃ k frL F1 G1, k ≤ xs.length ∧ (∀ (i x : Nat), xs[i]? = some x → (L.getD x false = true ↔ i < k)) ∧ Sim dp F1 G1 w (sto k) ∧ Ext F G w0 S0 F1 G1 w (sto k) ∧ Fr dp F1 G1 w a frL ∧ frL.length = fr'.length ∧
    (∀ (j : Nat) (o : Oper) (t : Nat), L.getD j false = true → ops.toList[j]? = some o → o.dst = some t → fget frL t = fget fr' t) ∧
    (∀ t, (∀ (j : Nat) (o : Oper), L.getD j false = true → ops.toList[j]? = some o → o.dst ≠ some t) → fget frL t = fget fr0 t)

theorem getD_eq_false {L : Array Bool} {j : Nat} (h : L.getD j true = false) : j < L.size ∧ L.getD j false = false := by
  rcases Nat.lt_or_ge j L.size with h' | h'
  · refine ⟨h', ?_⟩
    simp [h'] at h ⊢
    exact h
  · simp [Array.getElem?_eq_none h'] at h

theorem getD_set {L : Array Bool} {i : Nat} (hi : i < L.size) (j : Nat) (b : Bool) : (L.setIfInBounds i true).getD j b = if j = i then true else L.getD j b := by
  by_cases h : j = i
  · subst h; simp [hi]
  · rw [if_neg h]
    simp [Array.getElem?_setIfInBounds_ne (Ne.symm h)]

theorem wp_dreg {id : Nat} {ops : Array Oper} {is : List (Nat × I)} {Q : Exit → Act → World → Prop} (hfol : P.follows .mixedOrders = true) (hc : CallOk P dp cf) (hen : Enter P dp) (hm : mDr P dp ops.toList is = true)
    (he : evIs cf fr S (snds is) = some (fr', S')) (hs : Sim dp F G w S) (hf : Fr dp F G w a fr)
    (hQ : ∀ a' w' F' G', Sim dp F' G' w' S' → Ext F G w S F' G' w' S' → Fr dp F' G' w' a' fr' → a'.defers = a.defers → Q .normal a' w') : (Code.region id ops true).wp P Q a w := by
  simp only [mDr, Bool.and_eq_true, List.all_eq_true] at hm
  obtain ⟨⟨⟨⟨⟨⟨hitems, hsep⟩, huses⟩, hedges⟩, hnd⟩, hchain⟩, hcov⟩ := hm
  have hasop : ∀ q ∈ is, asOp q.2 ≠ none ∧ ckOk q.2 = true := by
    intro q hq
    obtain ⟨h1, h2⟩ := hitems q hq
    refine ⟨fun hn => ?_, h2⟩
    unfold itemOk at h1
    split at h1
    · rw [hn] at h1; cases h1
    · cases h1
  obtain ⟨hlen, hunt, sto, e0, em, hhold⟩ := trace is he hsep hasop
  -- an item at its place
  have item : ∀ k j i, (k, j, i) ∈ ann 0 is → itemOk P dp ops.toList j i = true ∧ ∃ pre post frp, useOk ops.toList (befores ops.toList []) pre j i post = true ∧ is = pre ++ (j, i) :: post ∧
      (∀ u, noDst u pre = true → fget frp u = fget fr u) ∧ (∀ u, noDst u ((j, i) :: post) = true → fget frp u = fget fr' u) ∧ Hold cf frp fr' (sto k) (sto (k + if isX i then 1 else 0)) i := by
    intro k j i h
    obtain ⟨pre, post, h1, h2⟩ := mem_ann h
    rw [Nat.zero_add] at h2
    subst h2
    obtain ⟨frp, a1, a2, a3, a4⟩ := hhold pre j i post h1
    have := usesOk_get huses pre j i post h1
    exact ⟨(hitems (j, i) (by rw [h1]; simp)).1, pre, post, frp, by simpa using this, h1, a2, a3, a4⟩
  -- nothing writes what no operation has for its place
  have nowhere : ∀ u, (∀ (q : Nat) (oq : Oper), ops.toList[q]? = some oq → oq.dst ≠ some u) → ∀ q ∈ is, dstI q.2 ≠ some u := by
    intro u hno q hq hd
    have h1 := (hitems q hq).1
    unfold itemOk at h1
    split at h1
    · rename_i o ho
      split at h1
      · rename_i dst gd r hop
        simp only [mI, Bool.and_eq_true] at h1
        have hd2 := h1.1.1
        cases hq2 : q.2 with
        | op dst' gd' r' =>
          rw [hq2] at hop hd
          simp only [asOp, Option.some.injEq, Prod.mk.injEq] at hop
          simp only [dstI] at hd
          rw [← hop.1, hd] at hd2
          unfold mDst at hd2
          split at hd2
          · rename_i e; cases e
          · rename_i u v e1 e2
            injection e2 with e2
            subst e2
            simp only [beq_iff_eq] at hd2
            subst hd2
            exact hno _ o ho e1
          · cases hd2
        | fz u => rw [hq2] at hop; simp [asOp] at hop
        | ck u r' => rw [hq2] at hd; simp [dstI] at hd
      · cases h1
    · cases h1
  obtain ⟨hs1, hx1, hf1⟩ := hs.drew hf
  have hedge : ∀ (j : Nat) (o : Oper) (e : Edge), ops.toList[j]? = some o → e ∈ o.after.toList → Region.binds .any e = true → e.on < j := by
    intro j o e ho hE hb
    have h1 := (List.all_eq_true.1 hedges) (o, j) (by
      rw [List.mem_iff_getElem?]
      refine ⟨j, ?_⟩
      simp [List.getElem?_zipIdx] at ho ⊢
      exact ho)
    have h2 := List.all_eq_true.1 h1 e hE
    simpa [hb] using h2
  -- the step
  have main : ∀ (fuel : Nat) (L : Array Bool) (a1 : Act) (w1 : World), (List.range ops.size).countP (fun j => !L.getD j true) ≤ fuel → Inv P dp F G w S ops (xsOf is) sto fr fr' a.defers L a1 w1 → wpAny P .any ops Q fuel L a1 w1 := by
    have done : ∀ (L : Array Bool) (a1 : Act) (w1 : World), Inv P dp F G w S ops (xsOf is) sto fr fr' a.defers L a1 w1 → Region.ready .any ops L = [] → Q .normal a1 w1 := by
      intro L a1 w1 hI hr
      have all : ∀ n j, j ≤ n → j < ops.size → L.getD j false = true := by
        intro n
        induction n with
        | zero =>
          intro j hj hlt
          have hj0 : j = 0 := by omega
          subst hj0
          rcases Bool.eq_false_or_eq_true (L.getD 0 true) with h | h
          · have : 0 < L.size := by rw [hI.size]; exact hlt
            simp [this] at h ⊢; exact h
          · exfalso
            have : 0 ∈ Region.ready .any ops L := mem_ready.2 ⟨h, ops[0], Array.getElem?_eq_getElem hlt, fun e he hb => by
              have := hedge 0 ops[0] e (by simp [hlt]) (by simpa using he) hb
              omega⟩
            rw [hr] at this
            cases this
        | succ n ih =>
          intro j hj hlt
          rcases Bool.eq_false_or_eq_true (L.getD j true) with h | h
          · have : j < L.size := by rw [hI.size]; exact hlt
            simp [this] at h ⊢; exact h
          · exfalso
            have : j ∈ Region.ready .any ops L := mem_ready.2 ⟨h, ops[j], Array.getElem?_eq_getElem hlt, fun e he hb => by
              have := hedge j ops[j] e (by simp [hlt]) (by simpa using he) hb
              exact ih e.on (by omega) (by omega)⟩
            rw [hr] at this
            cases this
      obtain ⟨k, frL, F1, G1, hk, hxk, k1, k2, k3, k4, k5, k6⟩ := hI.st
      have hkm : k = (xsOf is).length := by
        rcases Nat.lt_or_ge k (xsOf is).length with h | h
        · exfalso
          have hget := List.getElem?_eq_getElem h
          have hlt : (xsOf is)[k] < ops.size := by
            -- an item of the list
            have hmem : ∀ (l : List (Nat × I)) (x : Nat), x ∈ xsOf l → ∃ i, (x, i) ∈ l := by
              intro l
              induction l with
              | nil => intro x h; simp [xsOf] at h
              | cons q l ih =>
                intro x h
                simp only [xsOf] at h
                split at h
                · rcases List.mem_cons.1 h with h | h
                  · exact ⟨q.2, by rw [h]; simp⟩
                  · obtain ⟨i, hi⟩ := ih x h
                    exact ⟨i, by simp [hi]⟩
                · obtain ⟨i, hi⟩ := ih x h
                  exact ⟨i, by simp [hi]⟩
            obtain ⟨i, hi⟩ := hmem is _ (List.getElem_mem h)
            have h1 := (hitems _ hi).1
            unfold itemOk at h1
            split at h1
            · rename_i o ho
              have := (List.getElem?_eq_some_iff.1 ho).1
              simpa using this
            · cases h1
          have := (hxk k _ hget).1 (all _ _ (Nat.le_refl _) hlt)
          omega
        · omega
      rw [hkm, xs_len, em] at k1 k2
      refine hQ a1 w1 F1 G1 k1 k2 ⟨by rw [← k4]; exact k3.len, fun t => ?_⟩ hI.defers
      have hfin : fget frL t = fget fr' t := by
        by_cases hex : ∃ (j : Nat) (o : Oper), L.getD j false = true ∧ ops.toList[j]? = some o ∧ o.dst = some t
        · obtain ⟨j, o, h1, h2, h3⟩ := hex
          exact k5 j o t h1 h2 h3
        · have hno : ∀ (j : Nat) (o : Oper), ops.toList[j]? = some o → o.dst ≠ some t := by
            intro j o h2 h3
            have hlt : j < ops.size := by simpa using (List.getElem?_eq_some_iff.1 h2).1
            exact hex ⟨j, o, all _ _ (Nat.le_refl _) hlt, h2, h3⟩
          rw [k6 t fun j o _ h2 => hno j o h2]
          exact (hunt t (nowhere t hno)).symm
      rw [← hfin]
      exact k3.rel t
    intro fuel
    induction fuel with
    | zero =>
      intro L a1 w1 hcnt hI
      have hr : Region.ready .any ops L = [] := by
        rw [List.eq_nil_iff_forall_not_mem]
        intro j hj
        obtain ⟨h1, o, ho, _⟩ := mem_ready.1 hj
        have hlt : j < ops.size := (Array.getElem?_eq_some_iff.1 ho).1
        have : 0 < (List.range ops.size).countP (fun j => !L.getD j true) := List.countP_pos_iff.2 ⟨j, List.mem_range.2 hlt, by rw [h1]; rfl⟩
        omega
      exact ⟨hr, done L a1 w1 hI hr⟩
    | succ fuel ih =>
      intro L a1 w1 hcnt hI
      refine ⟨done L a1 w1 hI, fun j hj => ?_⟩
      obtain ⟨hjun, oj, hoj, hjed⟩ := mem_ready.1 hj
      obtain ⟨hjL, hjf⟩ := getD_eq_false hjun
      have hlt : j < ops.size := (Array.getElem?_eq_some_iff.1 hoj).1
      have hoj' : ops.toList[j]? = some oj := by simpa using hoj
      have hbef : ∀ q, bbit (befores ops.toList []) q j = true → L.getD q false = true := fun q hq =>
        (bbit_bef hq).closed (L := fun q => L.getD q false = true) hI.closed fun o e h1 h2 h3 => by
          rw [hoj'] at h1; injection h1 with h1; subst h1
          exact hjed e (by simpa using h2) h3
      have hcnt' : (List.range ops.size).countP (fun q => !(L.setIfInBounds j true).getD q true) ≤ fuel := by
        have := count_lt (l := List.range ops.size) (x := j) (p := fun q => !L.getD q true) (p' := fun q => !(L.setIfInBounds j true).getD q true) (fun y _ hy => by
          simp only [getD_set hjL] at hy
          split at hy
          · cases hy
          · exact hy) (List.mem_range.2 hlt) (by simp only [hjun]; rfl) (by simp [getD_set hjL])
        omega
      obtain ⟨k, frL, F1, G1, hk, hxk, k1, k2, k3, k4, k5, k6⟩ := hI.st
      -- what is enough
      have enough : ∀ (k0 k' : Nat) (i : I) (pre post : List (Nat × I)) (frp : List D), itemOk P dp ops.toList j i = true → useOk ops.toList (befores ops.toList []) pre j i post = true → is = pre ++ (j, i) :: post →
          (∀ u, noDst u pre = true → fget frp u = fget fr u) → (∀ u, noDst u ((j, i) :: post) = true → fget frp u = fget fr' u) → k' ≤ (xsOf is).length → (∀ (p x : Nat), (xsOf is)[p]? = some x → ((x = j ∨ L.getD x false = true) ↔ p < k')) →
          (∀ dst gd r, asOp i = some (dst, gd, r) → ∃ b d, DE.wanted frp gd = some b ∧ ((b = true ∧ evR cf frp (sto k) r = some (d, sto k')) ∨ (b = false ∧ d = .tup [] ∧ sto k' = sto k)) ∧
            ∀ t, dst = some t → fget fr' t = if t < fr'.length then d else .top) →
          wpOp P ops Q j (wpAny P .any ops Q fuel (L.setIfInBounds j true)) a1 w1 := by
        intro k0 k' i pre post frp hio huse hisp hpre hpost hk' hxs hev
        unfold itemOk at hio
        rw [hoj'] at hio
        dsimp only at hio
        split at hio
        · rename_i dst gd r hop
          have hmI := hio
          obtain ⟨b, d, hw, hd, hfd⟩ := hev dst gd r hop
          -- the operands are as they were
          have hagree : ∀ u ∈ usG gd ++ usR r, fget frL u = fget frp u := by
            intro u hu
            have hu' : u ∈ usO i ∨ (∃ t r', i = .ck t r') := by
              cases i with
              | op dst' gd' r' =>
                simp only [asOp, Option.some.injEq, Prod.mk.injEq] at hop
                obtain ⟨rfl, rfl, rfl⟩ := hop
                exact .inl hu
              | fz t => simp [asOp] at hop
              | ck t r' =>
                simp only [asOp, Option.some.injEq, Prod.mk.injEq] at hop
                obtain ⟨rfl, rfl, rfl⟩ := hop
                exact .inl (by simpa [usG, usO] using hu)
            have hu'' : u ∈ usO i := by
              rcases hu' with h | ⟨t, r', rfl⟩
              · exact h
              · simp only [asOp, Option.some.injEq, Prod.mk.injEq] at hop
                obtain ⟨rfl, rfl, rfl⟩ := hop
                simpa [usG, usO] using hu
            have h1 := List.all_eq_true.1 huse u hu''
            have hzip : ∀ (q : Nat) (oq : Oper), ops.toList[q]? = some oq → (oq, q) ∈ ops.toList.zipIdx := by
              intro q oq h2
              rw [List.mem_iff_getElem?]
              refine ⟨q, ?_⟩
              simp [List.getElem?_zipIdx] at h2 ⊢
              exact h2
            simp only [Bool.or_eq_true, Bool.and_eq_true] at h1
            rcases h1 with ⟨hno, hall⟩ | ⟨hno, hall⟩
            · rw [hpost u hno]
              by_cases hex : ∃ (q : Nat) (oq : Oper), ops.toList[q]? = some oq ∧ oq.dst = some u
              · obtain ⟨q, oq, h2, h3⟩ := hex
                have h4 := List.all_eq_true.1 hall (oq, q) (hzip q oq h2)
                simp only [h3, bne_self_eq_false, Bool.false_or] at h4
                exact k5 q oq u (hbef q h4) h2 h3
              · have hno' : ∀ (q : Nat) (oq : Oper), ops.toList[q]? = some oq → oq.dst ≠ some u := fun q oq h2 h3 => hex ⟨q, oq, h2, h3⟩
                rw [k6 u fun q oq _ h2 => hno' q oq h2]
                exact (hunt u (nowhere u hno')).symm
            · rw [hpre u hno]
              refine k6 u fun q oq hq h2 h3 => ?_
              have h4 := List.all_eq_true.1 hall (oq, q) (hzip q oq h2)
              simp only [h3, bne_self_eq_false, Bool.false_or] at h4
              have := (bbit_bef h4).closed (L := fun q => L.getD q false = true) hI.closed fun o e a1 a2 a3 => hI.closed q o e hq a1 a2 a3
              rw [hjf] at this
              cases this
          have hw' : DE.wanted frL gd = some b := by
            rw [← hw]; exact wanted_congr fun t ht => hagree t (by simp [ht])
          have hd' : (b = true ∧ evR cf frL (sto k) r = some (d, sto k')) ∨ (b = false ∧ d = .tup [] ∧ sto k' = sto k) := by
            rcases hd with ⟨h1, h2⟩ | h
            · exact .inl ⟨h1, by rw [← h2]; exact evR_congr fun t ht => hagree t (by simp [ht])⟩
            · exact .inr h
          have hdst : oj.dst = dst := by
            simp only [mI, Bool.and_eq_true] at hmI
            have h1 := hmI.1.1
            unfold mDst at h1
            split at h1
            · rename_i e; rw [e]
            · rename_i e; rw [e]; simpa using h1
            · cases h1
          unfold wpOp
          rw [hoj]
          dsimp only
          refine step_op hc hen hmI k1 k3 hw' hd' fun a2 w2 F2 G2 q1 q2 q3 q4 => ih _ a2 w2 hcnt' ?_
          refine ⟨by simp [hI.size], fun q o e h1 h2 h3 h4 => ?_, by rw [q4]; exact hI.defers, k', fsetO frL dst d, F2, G2, hk', ?_, q1, k2.trans q2, q3, by rw [fsetO_length]; exact k4, ?_, ?_⟩
          · rw [getD_set hjL] at h1 ⊢
            split
            · rfl
            · split at h1
              · rename_i hqj
                subst hqj
                rw [hoj'] at h2; injection h2 with h2; subst h2
                exact hjed e (by simpa using h3) h4
              · exact hI.closed q o e h1 h2 h3 h4
          · intro p x hx
            rw [← hxs p x hx, getD_set hjL]
            by_cases hxj : x = j
            · simp [hxj]
            · simp [hxj]
          · intro q o t h1 h2 h3
            rw [getD_set hjL] at h1
            by_cases ht : dst = some t
            · rw [hfd t ht]
              subst ht
              rw [fget_fsetO_self, k4]
            · rw [fget_fsetO _ _ _ _ ht]
              split at h1
              · rename_i hqj
                subst hqj
                rw [hoj'] at h2; injection h2 with h2; subst h2
                exact absurd (hdst.symm.trans h3) ht
              · exact k5 q o t h1 h2 h3
          · intro t ht
            have hne : dst ≠ some t := by
              intro h
              exact ht j oj (by rw [getD_set hjL]; simp) hoj' (hdst.trans h)
            rw [fget_fsetO _ _ _ _ hne]
            refine k6 t fun q o h1 h2 => ht q o ?_ h2
            rw [getD_set hjL]
            split
            · rfl
            · exact h1
        · cases hio
      have hcj := hcov j (List.mem_range.2 (by simpa using hlt))
      unfold covOk at hcj
      simp only [Bool.or_eq_true] at hcj
      -- an item that is no writing
      have still : ∀ (k0 : Nat) (i : I), (k0, j, i) ∈ ann 0 is → isX i = false → (∀ (p x : Nat), (xsOf is)[p]? = some x → x ≠ j) →
          (∀ frp dst gd r d, asOp i = some (dst, gd, r) → evR cf frp (sto k0) r = some (d, sto k0) → evR cf frp (sto k) r = some (d, sto k)) →
          wpOp P ops Q j (wpAny P .any ops Q fuel (L.setIfInBounds j true)) a1 w1 := by
        intro k0 i hann hx hnx hmove
        obtain ⟨hio, pre, post, frp, huse, hisp, hpre, hpost, hhold⟩ := item k0 j i hann
        refine enough k0 k i pre post frp hio huse hisp hpre hpost hk (fun p x hpx => ?_) fun dst gd r hop => ?_
        · rw [← hxk p x hpx]
          simp [hnx p x hpx]
        · obtain ⟨b, h1, h2, h3⟩ := hhold dst gd r hop
          simp only [hx, Bool.false_eq_true, if_false, Nat.add_zero] at h2 h3
          cases b with
          | true =>
            obtain ⟨d, h4, h5⟩ := h2 rfl
            exact ⟨true, d, h1, .inl ⟨rfl, hmove frp dst gd r d hop h4⟩, h5⟩
          | false => exact ⟨false, .tup [], h1, .inr ⟨rfl, rfl, rfl⟩, (h3 rfl).2⟩
      by_cases hx : ∃ p : Nat, (xsOf is)[p]? = some j
      · obtain ⟨p, hp⟩ := hx
        have hpl := (List.getElem?_eq_some_iff.1 hp).1
        obtain ⟨i, hann, hxi⟩ := xs_ann 0 hp
        rw [Nat.zero_add] at hann
        have hkp : k = p := by
          have h1 : ¬ p < k := fun h => by
            have := (hxk p j hp).2 h
            rw [hjf] at this
            cases this
          rcases Nat.eq_zero_or_pos p with h0 | h0
          · omega
          · have hlt' : p - 1 < (xsOf is).length := by omega
            have hg := List.getElem?_eq_getElem hlt'
            have hb := chain_get (i := p - 1) hchain hg (by rw [show p - 1 + 1 = p by omega]; exact hp)
            have := (hxk _ _ hg).1 (hbef _ hb)
            omega
        subst hkp
        obtain ⟨hio, pre, post, frp, huse, hisp, hpre, hpost, hhold'⟩ := item k j i hann
        refine enough k (k + 1) i pre post frp hio huse hisp hpre hpost hpl (fun q x hq => ?_) fun dst gd r hop => ?_
        · by_cases hqk : q = k
          · subst hqk
            rw [hp] at hq; injection hq with hq
            simp [hq]
          · have hne := ndB_ne hnd hq hp hqk
            have := hxk q x hq
            simp only [hne, false_or]
            rw [this]
            omega
        · obtain ⟨b, h1, h2, h3⟩ := hhold' dst gd r hop
          simp only [hxi, if_true] at h2 h3
          cases b with
          | true =>
            obtain ⟨d, h4, h5⟩ := h2 rfl
            exact ⟨true, d, h1, .inl ⟨rfl, h4⟩, h5⟩
          | false => exact ⟨false, .tup [], h1, .inr ⟨rfl, rfl, (h3 rfl).1⟩, (h3 rfl).2⟩
      · have hnx : ∀ (p x : Nat), (xsOf is)[p]? = some x → x ≠ j := fun p x h e => hx ⟨p, by rw [h, e]⟩
        have notX : ∀ (k0 : Nat) (i : I), (k0, j, i) ∈ ann 0 is → isX i = false := by
          intro k0 i h
          rcases Bool.eq_false_or_eq_true (isX i) with h1 | h1
          · obtain ⟨pre, post, h2, _⟩ := mem_ann h
            exact (hx ⟨nX pre, xs_get h2 h1⟩).elim
          · exact h1
        rcases hcj with hcj | hcj
        · obtain ⟨⟨k0, j', i⟩, hann, h1⟩ := List.any_eq_true.1 hcj
          simp only [Bool.and_eq_true, beq_iff_eq] at h1
          obtain ⟨rfl, h1⟩ := h1
          have hni := notX k0 i hann
          refine still k0 i hann hni hnx fun frp dst gd r d hop hev => ?_
          cases i with
          | op dst' gd' r' =>
            simp only [asOp, Option.some.injEq, Prod.mk.injEq] at hop
            obtain ⟨rfl, rfl, rfl⟩ := hop
            simp only [Bool.or_eq_true] at h1
            rcases h1 with h1 | h1
            · exact evR_any h1 hev (sto k)
            · have : isX (.op dst' gd' r') = kdX r' := rfl
              rw [this, h1] at hni
              cases hni
          | fz t => cases h1
          | ck t r' => cases h1
        · have h1 := List.all_eq_true.1 hcj k (List.mem_range.2 (by omega))
          simp only [Bool.or_eq_true] at h1
          rcases h1 with h1 | h1
          · exfalso
            obtain ⟨⟨x, p⟩, hxp, h2⟩ := List.any_eq_true.1 h1
            have hget : (xsOf is)[p]? = some x := by
              obtain ⟨q, hq⟩ := List.mem_iff_getElem?.1 hxp
              simp [List.getElem?_zipIdx] at hq
              obtain ⟨y, hy, e1, e2⟩ := hq
              rw [← e2, ← e1]
              exact hy
            simp only [Bool.or_eq_true, Bool.and_eq_true, Bool.not_eq_true', decide_eq_false_iff_not] at h2
            rcases h2 with ⟨h2, h3⟩ | ⟨h2, h3⟩
            · exact h3 ((hxk p x hget).1 (hbef x h2))
            · have hLx := (hxk p x hget).2 (by omega)
              have := (bbit_bef h2).closed (L := fun q => L.getD q false = true) hI.closed fun o e a1 a2 a3 => hI.closed x o e hLx a1 a2 a3
              rw [hjf] at this
              cases this
          · obtain ⟨⟨k0, j', i⟩, hann, h2⟩ := List.any_eq_true.1 h1
            simp only [Bool.and_eq_true, beq_iff_eq] at h2
            obtain ⟨⟨rfl, rfl⟩, _⟩ := h2
            exact still k0 i hann (notX k0 i hann) hnx fun frp dst gd r d _ hev => hev
  have hrep : ∀ j, (Array.replicate ops.size false).getD j false = false := by
    intro j
    by_cases h : j < ops.size <;> simp [h]
  refine wp_region_any hfol (main ops.size _ a w.drew ?_ ?_)
  · refine Nat.le_trans List.countP_le_length ?_
    simp
  · refine ⟨by simp, fun j o e h => ?_, rfl, 0, fr, F, G, Nat.zero_le _, fun i x _ => ?_, by rw [e0]; exact hs1, by rw [e0]; exact hx1, hf1, hlen.symm, fun j o t h => ?_, fun t _ => rfl⟩
    · rw [hrep] at h; cases h
    · rw [hrep]; simp
    · rw [hrep] at h; cases h

end

end Go.Proofs.YtjlmeikcfdanmaaGreatDoor.DE
