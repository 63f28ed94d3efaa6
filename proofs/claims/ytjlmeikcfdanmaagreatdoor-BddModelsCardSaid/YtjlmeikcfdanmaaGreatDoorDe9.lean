/-
  ARITHMETIC, COMPARISONS, LOOK-UPS, LITERALS: operations that leave the world alone, the last.
-/
import Derived.Test.YtjlmeikcfdanmaaGreatDoorDe8
import Derived.Laws.Entries
namespace Go.Proofs.YtjlmeikcfdanmaaGreatDoor.DE
open Go

section
variable {P : Program} {dp : Nat → Option Fn} {F F' : Fix} {G G' : List Gh} {w w' : World} {S S' : Store} {a : Act} {fr : List D} {o : Oper} {d : D}

theorem intOp_run {op : BinOp} {k : IntKind} {x y : Int} (t : TypeId) (h : intOp op k x y = some d) (h1 : op ≠ .shl) (h2 : op ≠ .shr) :
    ∃ v, (binOp op t (.int k x) (.int k y)).run P w = .ok v w ∧ Rel dp F G w v d := by
  have ar : ∀ _ : Sem Value, (op = .add ∨ op = .sub ∨ op = .mul) → (binOp op t (.int k x) (.int k y)).run P w = (Op.intArith op k x y).run P w := by
    rintro _ (rfl | rfl | rfl) <;> simp only [binOp, ne_eq, not_true_eq_false, if_false]
  have dv : (op = .quo ∨ op = .rem) → (binOp op t (.int k x) (.int k y)).run P w = (Op.intDiv op k x y).run P w := by
    rintro (rfl | rfl) <;> simp only [binOp, ne_eq, not_true_eq_false, if_false]
  have bt : (op = .and ∨ op = .or ∨ op = .xor) → (binOp op t (.int k x) (.int k y)).run P w = (Op.intBits op k x y).run P w := by
    rintro (rfl | rfl | rfl) <;> simp only [binOp, ne_eq, not_true_eq_false, if_false]
  have cm : (op = .eql ∨ op = .neq ∨ op = .lss ∨ op = .leq ∨ op = .gtr ∨ op = .geq) → (binOp op t (.int k x) (.int k y)).run P w = (Op.intCmp op x y).run P w := by
    rintro (rfl | rfl | rfl | rfl | rfl | rfl) <;> simp only [binOp, ne_eq, not_true_eq_false, if_false]
  cases op with
  | add => injection h with h; subst h; exact ⟨_, by rw [ar (pure undef) (by simp)]; rfl, .i _ _⟩
  | sub => injection h with h; subst h; exact ⟨_, by rw [ar (pure undef) (by simp)]; rfl, .i _ _⟩
  | mul => injection h with h; subst h; exact ⟨_, by rw [ar (pure undef) (by simp)]; rfl, .i _ _⟩
  | quo =>
    simp only [intOp] at h
    split at h
    · cases h
    · rename_i hy
      injection h with h; subst h
      exact ⟨_, by rw [dv (by simp)]; simp only [Op.intDiv, if_neg hy]; rfl, .i _ _⟩
  | rem =>
    simp only [intOp] at h
    split at h
    · cases h
    · rename_i hy
      injection h with h; subst h
      exact ⟨_, by rw [dv (by simp)]; simp only [Op.intDiv, if_neg hy]; rfl, .i _ _⟩
  | and => injection h with h; subst h; exact ⟨_, by rw [bt (by simp)]; rfl, .i _ _⟩
  | or => injection h with h; subst h; exact ⟨_, by rw [bt (by simp)]; rfl, .i _ _⟩
  | xor => injection h with h; subst h; exact ⟨_, by rw [bt (by simp)]; rfl, .i _ _⟩
  | shl => exact absurd rfl h1
  | shr => exact absurd rfl h2
  | andNot => cases h
  | eql => injection h with h; subst h; exact ⟨_, by rw [cm (by simp)]; rfl, .b _⟩
  | neq => injection h with h; subst h; exact ⟨_, by rw [cm (by simp)]; rfl, .b _⟩
  | lss => injection h with h; subst h; exact ⟨_, by rw [cm (by simp)]; rfl, .b _⟩
  | leq => injection h with h; subst h; exact ⟨_, by rw [cm (by simp)]; rfl, .b _⟩
  | gtr => injection h with h; subst h; exact ⟨_, by rw [cm (by simp)]; rfl, .b _⟩
  | geq => injection h with h; subst h; exact ⟨_, by rw [cm (by simp)]; rfl, .b _⟩

theorem run_equalIn_slice {t el : TypeId} (n : Nat) (hu : P.underlying t = some (.slice el)) (b : Option Addr) (m c : Nat) : (Op.equalIn (n + 1) t (.slice b m c) (.slice none 0 0)).run P w = .ok b.isNone w := by
  simp only [Op.equalIn, Sem.run_bind, run_underlying hu, Result.andThen]
  cases b <;> rfl

theorem run_equalIn_map {t k el : TypeId} (n : Nat) (hu : P.underlying t = some (.map k el)) (b : Option Nat) : (Op.equalIn (n + 1) t (.map b) (.map none)).run P w = .ok b.isNone w := by
  simp only [Op.equalIn, Sem.run_bind, run_underlying hu, Result.andThen]
  cases b <;> rfl

theorem shOp_run {op : BinOp} {k k' : IntKind} {x y : Int} (t : TypeId) (h : shOp op k x y = some d) (h1 : op = .shl ∨ op = .shr) :
    ∃ v, (binOp op t (.int k x) (.int k' y)).run P w = .ok v w ∧ Rel dp F G w v d := by
  unfold shOp at h
  split at h
  · cases h
  · rename_i hy
    rcases h1 with rfl | rfl
    · injection h with h; subst h
      exact ⟨_, by simp only [binOp, Op.shift, if_neg hy, Sem.run_pure], .i _ _⟩
    · injection h with h; subst h
      exact ⟨_, by simp only [binOp, Op.shift, if_neg hy, Sem.run_pure], .i _ _⟩

theorem mSK_i {t : TypeId} (h : mSK P t .i = true) : ∃ k, P.underlying t = some (.int k) := by
  simp only [mSK, mU] at h
  split at h
  · rename_i td htd
    split at h
    · exact ⟨_, htd⟩
    · cases h
  · cases h

theorem mSK_b {t : TypeId} (h : mSK P t .b = true) : P.underlying t = some .bool := by
  simp only [mSK, mU] at h
  split at h
  · rename_i td htd
    split at h
    · exact htd
    · cases h
  · cases h

theorem mSK_s {t : TypeId} (h : mSK P t .s = true) : P.underlying t = some .string := by
  simp only [mSK, mU] at h
  split at h
  · rename_i td htd
    split at h
    · exact htd
    · cases h
  · cases h

theorem run_scal {t : TypeId} {k : SK} {x y : D} {u v : Value} {r : Bool} (n : Nat) (ht : mSK P t k = true) (hx : isSK k x = true) (hy : isSK k y = true) (hs : seq1 x y = some r)
    (hu : Rel dp F G w u x) (hv : Rel dp F G w v y) : (Op.equalIn (n + 1) t u v).run P w = .ok r w := by
  cases k with
  | i =>
    cases hu <;> simp [isSK] at hx
    cases hv <;> simp [isSK] at hy
    obtain ⟨k, htd⟩ := mSK_i ht
    simp only [seq1] at hs
    split at hs
    · rename_i hk
      subst hk
      injection hs with hs
      subst hs
      exact run_equalIn_int w n t _ _ _ _ htd
    · cases hs
  | b =>
    cases hu <;> simp [isSK] at hx
    cases hv <;> simp [isSK] at hy
    simp only [seq1] at hs
    injection hs with hs
    subst hs
    exact run_equalIn_bool' w n t _ _ (mSK_b ht)
  | s =>
    cases hu <;> simp [isSK] at hx
    cases hv <;> simp [isSK] at hy
    simp only [seq1] at hs
    injection hs with hs
    subst hs
    rw [run_equalIn_string w n t _ _ (mSK_s ht)]
    simp [ByteArray.toList_eq]

theorem mSK_part {t : TypeId} {k : SK} {vs : Array Value} {j : Nat} {v : Value} (ht : mSK P t k = true) (hv : vs[j]? = some v) : (part t vs j).run P w = .ok v w := by
  have hag : (isAgg t).run P w = .ok false w := by
    cases k with
    | i =>
      obtain ⟨k, htd⟩ := mSK_i ht
      simp only [isAgg, Sem.run_bind, run_underlying htd, Result.andThen, Sem.run_pure]
    | b => simp only [isAgg, Sem.run_bind, run_underlying (mSK_b ht), Result.andThen, Sem.run_pure]
    | s => simp only [isAgg, Sem.run_bind, run_underlying (mSK_s ht), Result.andThen, Sem.run_pure]
  simp only [part, Sem.run_bind, hag, Result.andThen, Bool.false_eq_true, if_false, hv, Sem.run_pure]

theorem seqL_length : ∀ {ks : List SK} {xs ys : List D} {r : Bool}, seqL ks xs ys = some r → xs.length = ks.length ∧ ys.length = ks.length
  | [], [], [], _, _ => ⟨rfl, rfl⟩
  | [], _ :: _, _, _, h => by simp [seqL] at h
  | [], [], _ :: _, _, h => by simp [seqL] at h
  | _ :: _, [], _, _, h => by simp [seqL] at h
  | _ :: _, _ :: _, [], _, h => by simp [seqL] at h
  | k :: ks, x :: l, y :: m, r, h => by
    simp only [seqL] at h
    split at h
    · split at h
      · rename_i p q h1 h2
        have := seqL_length h2
        simp [this.1, this.2]
      · cases h
    · cases h

theorem run_eqFields {vs us : Array Value} {n : Nat} : ∀ {fs : List Field} {off : Nat} {ks : List SK} {xs ys : List D} {r : Bool}, flatFields P fs off ks = true → seqL ks xs ys = some r →
    (∀ (j : Nat) (x : D), xs[j]? = some x → ∃ v, vs[off + j]? = some v ∧ Rel dp F G w v x) → (∀ (j : Nat) (x : D), ys[j]? = some x → ∃ v, us[off + j]? = some v ∧ Rel dp F G w v x) →
    (Op.eqFields (n + 1) vs us fs).run P w = .ok r w
  | [], _, [], xs, ys, r, _, hs, _, _ => by
    obtain ⟨h1, h2⟩ := seqL_length hs
    cases xs <;> simp at h1
    cases ys <;> simp at h2
    simp only [seqL] at hs
    injection hs with hs
    subst hs
    rfl
  | [], _, _ :: _, _, _, _, hf, _, _, _ => by simp [flatFields] at hf
  | _ :: _, _, [], _, _, _, hf, _, _, _ => by simp [flatFields] at hf
  | f :: fs, off, k :: ks, xs, ys, r, hf, hs, hx, hy => by
    simp only [flatFields, Bool.and_eq_true, bne_iff_ne, ne_eq, beq_iff_eq] at hf
    obtain ⟨⟨⟨⟨hn, hk⟩, hsz⟩, hoff⟩, hrest⟩ := hf
    match xs, ys with
    | [], _ => simp [seqL] at hs
    | _ :: _, [] => simp [seqL] at hs
    | x :: xs, y :: ys =>
      simp only [seqL] at hs
      split at hs
      · rename_i hc
        simp only [Bool.and_eq_true] at hc
        split at hs
        · rename_i p q h1 h2
          injection hs with hs
          obtain ⟨v, hv, hrv⟩ := hx 0 x rfl
          obtain ⟨u, hu, hru⟩ := hy 0 y rfl
          have ih := run_eqFields (n := n) (vs := vs) (us := us) hrest h2 (fun j z hz => by
            obtain ⟨v, a, b⟩ := hx (j + 1) z (by simpa using hz)
            exact ⟨v, by rwa [show off + 1 + j = off + (j + 1) by omega], b⟩) (fun j z hz => by
            obtain ⟨v, a, b⟩ := hy (j + 1) z (by simpa using hz)
            exact ⟨v, by rwa [show off + 1 + j = off + (j + 1) by omega], b⟩)
          simp only [Nat.add_zero] at hv hu
          subst hoff
          simp only [Op.eqFields, ne_eq, hn, not_false_eq_true, if_true, Sem.run_bind, mSK_part hk hv, mSK_part hk hu, Result.andThen, run_scal n hk hc.1 hc.2 h1 hrv hru]
          subst hs
          cases p
          · simp
          · simpa using ih
        · cases hs
      · cases hs

theorem run_flat {t : TypeId} {ks : List SK} {xs ys : List D} {vs us : Array Value} {r : Bool} {n : Nat} (ht : mFlat P t ks = true) (hs : seqL ks xs ys = some r)
    (hu : Rel dp F G w (.agg vs) (.agg xs)) (hv : Rel dp F G w (.agg us) (.agg ys)) : (Op.equalIn (n + 2) t (.agg vs) (.agg us)).run P w = .ok r w ∧ P.eqGuardType P.depth t = false := by
  have gx : ∀ {vs : Array Value} {xs : List D}, Rel dp F G w (.agg vs) (.agg xs) → ∀ (j : Nat) (x : D), xs[j]? = some x → ∃ v, vs[j]? = some v ∧ Rel dp F G w v x := by
    intro vs xs h j x hx
    cases h with
    | agg _ _ hl h =>
      have hlt : j < vs.size := by rw [hl]; exact (List.getElem?_eq_some_iff.1 hx).1
      exact ⟨vs[j], Array.getElem?_eq_getElem hlt, h j _ x (Array.getElem?_eq_getElem hlt) hx⟩
  unfold mFlat at ht
  split at ht
  · rename_i fs hfs
    simp only [Bool.and_eq_true, Bool.not_eq_true'] at ht
    obtain ⟨⟨h1, h2⟩, h3⟩ := ht
    refine ⟨?_, h2⟩
    have hfo : P.fieldsOf t = fs := by simp [Program.fieldsOf, hfs]
    have ht' : P.underlying t = some (.struct (P.fieldsOf t)) := by rw [hfo]; exact hfs
    rw [run_equalIn_struct w (n + 1) t vs us ht' h1, hfo]
    exact run_eqFields h3 hs (fun j x hx => by rw [Nat.zero_add]; exact gx hu j x hx) (fun j x hx => by rw [Nat.zero_add]; exact gx hv j x hx)
  · rename_i m e he
    simp only [Bool.and_eq_true, Bool.not_eq_true', beq_iff_eq] at ht
    obtain ⟨⟨⟨⟨rfl, h2⟩, h3⟩, h4⟩, h5⟩ := ht
    refine ⟨?_, h2⟩
    match ks, h3 with
    | [k1, k2], _ =>
      obtain ⟨l1, l2⟩ := seqL_length hs
      match xs, l1, ys, l2 with
      | [x1, x2], _, [y1, y2], _ =>
        simp only [seqL] at hs
        split at hs
        · rename_i hc1
          simp only [Bool.and_eq_true] at hc1
          split at hs
          · rename_i p q hp hq
            injection hs with hs
            split at hq
            · rename_i hc2
              simp only [Bool.and_eq_true] at hc2
              split at hq
              · rename_i p2 q2 hp2 hq2
                injection hq with hq
                injection hq2 with hq2
                subst hq2 hq hs
                simp only [List.all_cons, List.all_nil, Bool.and_true, Bool.and_eq_true] at h4
                obtain ⟨v1, a1, b1⟩ := gx hu 0 x1 rfl
                obtain ⟨v2, a2, b2⟩ := gx hu 1 x2 rfl
                obtain ⟨u1, c1, e1⟩ := gx hv 0 y1 rfl
                obtain ⟨u2, c2, e2⟩ := gx hv 1 y2 rfl
                have q1 := run_scal (P := P) (n := n) h4.1 hc1.1 hc1.2 hp b1 e1
                have q2 := run_scal (P := P) (n := n) h4.2 hc2.1 hc2.2 hp2 b2 e2
                obtain ⟨m, hm⟩ : ∃ m, m = n + 1 := ⟨_, rfl⟩
                rw [← hm] at q1 q2
                rw [show n + 2 = m + 1 by omega]
                have w1 := mSK_part (P := P) (w := w) h4.1 a1
                have w2 := mSK_part (P := P) (w := w) h4.2 a2
                have w3 := mSK_part (P := P) (w := w) h4.1 c1
                have w4 := mSK_part (P := P) (w := w) h4.2 c2
                simp only [Op.equalIn, Sem.run_bind, run_underlying he, Result.andThen, run_sizeOf_of h5 w, Nat.mul_one]
                simp only [Std.Legacy.Range.forIn_eq_forIn_range', Std.Legacy.Range.size, List.range']
                simp only [List.forIn_cons, Sem.run_bind, Result.andThen, w1, w3, q1]
                cases p
                · rfl
                · simp only [Bool.not_true, Bool.false_eq_true, if_false, Sem.run_pure, Sem.run_bind, Result.andThen, Nat.zero_add, w2, w4, q2]
                  cases p2
                  · rfl
                  · rfl
              · cases hq
            · cases hq
          · cases hs
        · cases hs
  · cases ht

theorem eqD_run {op : BinOp} {r : Bool} (h : eqD op (some r) = some d) : (op = .eql ∧ d = .b r) ∨ (op = .neq ∧ d = .b (!r)) := by
  unfold eqD at h
  split at h
  · rename_i he; injection he with he; subst he; injection h with h; exact .inl ⟨rfl, h.symm⟩
  · rename_i he; injection he with he; subst he; injection h with h; exact .inr ⟨rfl, h.symm⟩
  · cases h

theorem pur_bin {op : BinOp} {q : Q} {y z : A} (hm : mR P dp o.op (.bin op q y z) = true) (hf : Fr dp F G w a fr) (he : binD op q (av fr y) (av fr z) = some d) : Pur P dp F G w a o d := by
  simp only [mR] at hm
  split at hm
  · rename_i op' t x v ty ho
    simp only [Bool.and_eq_true, decide_eq_true_eq] at hm
    obtain ⟨⟨⟨rfl, hq⟩, hx⟩, hv⟩ := hm
    have r1 := hf.eval hx
    have r2 := hf.eval hv
    generalize hv1 : a.eval x = v1 at r1
    generalize hv2 : a.eval v = v2 at r2
    generalize av fr y = e1 at r1 he
    generalize av fr z = e2 at r2 he
    have fin : (∃ u, (do eqGuard op t x v v1 v2; binOp op t v1 v2 : Sem Value).run P w = .ok u w ∧ Rel dp F G w u d) → Pur P dp F G w a o d := by
      rintro ⟨u, hu, hr⟩
      refine ⟨u, ?_, hr⟩
      simp only [execOp, ho, hv1, hv2, Sem.run_bind, Result.andThen] at hu ⊢
      rw [hu]
      rfl
    apply fin
    clear fin
    unfold binD at he
    split at he
    · -- numbers
      cases r1; cases r2
      simp only [eqGuard_at_int, pure_bind]
      split at he
      · exact shOp_run t he (.inl rfl)
      · exact shOp_run t he (.inr rfl)
      · rename_i h1 h2
        split at he
        · rename_i hk
          subst hk
          exact intOp_run t he (fun h => h1 h) (fun h => h2 h)
        · cases he
    · -- strings
      cases r1; cases r2
      rename_i l m
      simp only [eqGuard_at_string, pure_bind]
      have hl : (⟨l.toArray⟩ : ByteArray).toList = l := by simp [ByteArray.toList_eq]
      have hm : (⟨m.toArray⟩ : ByteArray).toList = m := by simp [ByteArray.toList_eq]
      have hsl : (⟨l.toArray⟩ : ByteArray).size = l.length := by show l.toArray.size = _; simp
      have hsm : (⟨m.toArray⟩ : ByteArray).size = m.length := by show m.toArray.size = _; simp
      split at he
      · split at he
        · rename_i hle
          injection he with he; subst he
          refine ⟨.string ⟨(l ++ m).toArray⟩, ?_, .s _⟩
          have : ¬ ((l.length + m.length : Nat) : Int) > IntKind.i64.max := by
            have e : IntKind.i64.max = 9223372036854775807 := by decide
            rw [e]; omega
          have ha : (⟨l.toArray⟩ : ByteArray) ++ ⟨m.toArray⟩ = ⟨(l ++ m).toArray⟩ := by
            apply ByteArray.ext
            rw [ByteArray.data_append]
            simp
          simp only [binOp, Op.stringOp, hsl, hsm, if_neg this, ha, Sem.run_pure]
        · cases he
      · injection he with he; subst he
        exact ⟨_, by simp only [binOp, Op.stringOp, hl, hm, Sem.run_pure], .b _⟩
      · injection he with he; subst he
        exact ⟨_, by simp only [binOp, Op.stringOp, hl, hm, Sem.run_pure], .b _⟩
      · injection he with he; subst he
        exact ⟨_, by simp only [binOp, Op.stringOp, hl, hm, Sem.run_pure], .b _⟩
      · cases he
    · -- booleans
      cases r1; cases r2
      rename_i p q
      simp only [eqGuard_at_bool, pure_bind]
      have hu : P.underlying t = some .bool := by
        simp only [mQ, mU] at hq
        split at hq
        · rename_i td htd
          split at hq
          · exact htd
          · cases hq
        · cases hq
      have hrun : (Op.equal t (.bool p) (.bool q)).run P w = .ok (p == q) w := run_equalIn_bool' w 9999 t p q hu
      rcases eqD_run he with ⟨rfl, rfl⟩ | ⟨rfl, rfl⟩
      · exact ⟨.bool (p == q), by simp only [binOp, Sem.run_bind, hrun, Result.andThen, Sem.run_pure], .b _⟩
      · exact ⟨.bool (!(p == q)), by simp only [binOp, Sem.run_bind, hrun, Result.andThen, Sem.run_pure], .b _⟩
    · -- structs
      rename_i ks xs ys
      have hq' : mFlat P t ks = true := hq
      cases hsq : seqL ks xs ys with
      | none => rw [hsq] at he; unfold eqD at he; split at he <;> simp_all
      | some r =>
        rw [hsq] at he
        have hr1 := r1
        have hr2 := r2
        cases r1 with
        | agg vs _ hl1 h1 =>
          cases r2 with
          | agg us _ hl2 h2 =>
            obtain ⟨e1, e2⟩ := run_flat (P := P) (n := 9998) hq' hsq hr1 hr2
            have g1 := run_eqGuard_agg w op t x v vs us e2
            rcases eqD_run he with ⟨rfl, rfl⟩ | ⟨rfl, rfl⟩
            · refine ⟨.bool r, ?_, .b _⟩
              rw [Sem.run_bind, g1, Result.andThen, run_eql_struct, e1]
              rfl
            · refine ⟨.bool (!r), ?_, .b _⟩
              rw [Sem.run_bind, g1, Result.andThen, run_neq_struct, e1]
              rfl
    · -- a slice and nil
      obtain ⟨el, hu⟩ : ∃ el, P.underlying t = some (.slice el) := by
        simp only [mQ, mU] at hq
        split at hq
        · rename_i td htd
          split at hq
          · exact ⟨_, htd⟩
          · cases hq
        · cases hq
      cases r2
      cases r1
      · simp only [eqGuard_at_slice, pure_bind]
        have hrun : (Op.equal t (.slice none 0 0) (.slice none 0 0)).run P w = .ok true w := run_equalIn_slice 9999 hu none 0 0
        rcases eqD_run he with ⟨rfl, rfl⟩ | ⟨rfl, rfl⟩
        · exact ⟨.bool true, by simp only [binOp, Sem.run_bind, hrun, Result.andThen, Sem.run_pure], .b _⟩
        · exact ⟨.bool false, by simp only [binOp, Sem.run_bind, hrun, Result.andThen, Sem.run_pure]; rfl, .b _⟩
      · rename_i blk off cap c hk hcap h1 h2 ho
        simp only [eqGuard_at_slice, pure_bind]
        have hrun : ∀ n, (Op.equal t (.slice (some ⟨blk, off, none⟩) n cap) (.slice none 0 0)).run P w = .ok false w := fun n => run_equalIn_slice 9999 hu _ n cap
        rcases eqD_run he with ⟨rfl, rfl⟩ | ⟨rfl, rfl⟩
        · exact ⟨.bool false, by simp only [binOp, Sem.run_bind, hrun, Result.andThen, Sem.run_pure], .b _⟩
        · exact ⟨.bool true, by simp only [binOp, Sem.run_bind, hrun, Result.andThen, Sem.run_pure]; rfl, .b _⟩
    · -- a map and nil
      obtain ⟨k, el, hu⟩ : ∃ k el, P.underlying t = some (.map k el) := by
        simp only [mQ, mU] at hq
        split at hq
        · rename_i td htd
          split at hq
          · exact ⟨_, _, htd⟩
          · cases hq
        · cases hq
      cases r1; cases r2
      simp only [eqGuard_at_map, pure_bind]
      have hrun : (Op.equal t (.map none) (.map none)).run P w = .ok true w := run_equalIn_map 9999 hu none
      rcases eqD_run he with ⟨rfl, rfl⟩ | ⟨rfl, rfl⟩
      · exact ⟨.bool true, by simp only [binOp, Sem.run_bind, hrun, Result.andThen, Sem.run_pure], .b _⟩
      · exact ⟨.bool false, by simp only [binOp, Sem.run_bind, hrun, Result.andThen, Sem.run_pure]; rfl, .b _⟩
    · obtain ⟨k, el, hu⟩ : ∃ k el, P.underlying t = some (.map k el) := by
        simp only [mQ, mU] at hq
        split at hq
        · rename_i td htd
          split at hq
          · exact ⟨_, _, htd⟩
          · cases hq
        · cases hq
      cases r1; cases r2
      rename_i id g hg
      simp only [eqGuard_at_map, pure_bind]
      have hrun : (Op.equal t (.map (some g.blk)) (.map none)).run P w = .ok false w := run_equalIn_map 9999 hu _
      rcases eqD_run he with ⟨rfl, rfl⟩ | ⟨rfl, rfl⟩
      · exact ⟨.bool false, by simp only [binOp, Sem.run_bind, hrun, Result.andThen, Sem.run_pure], .b _⟩
      · exact ⟨.bool true, by simp only [binOp, Sem.run_bind, hrun, Result.andThen, Sem.run_pure]; rfl, .b _⟩
    · cases he
  · cases hm

end

end Go.Proofs.YtjlmeikcfdanmaaGreatDoor.DE
