/-
  REGIONS THAT DRAW THEIR ORDER: the proof.
-/
import Derived.Test.YtjlmeikcfdanmaaGreatDoorDe18
namespace Go.Proofs.YtjlmeikcfdanmaaGreatDoor.DE
open Go

/-! ## Equality reckoned -/

theorem oeq_eq {a b : Own} (h : oeq a b = true) : a = b := by
  cases a <;> cases b <;> simp_all [oeq]

mutual
theorem deq_eq : ∀ {x y : D}, deq x y = true → x = y
  | .top, y, h => by cases y <;> simp_all [deq]
  | .b x, y, h => by cases y <;> simp_all [deq]
  | .i k x, y, h => by cases y <;> simp_all [deq]
  | .s x, y, h => by cases y <;> simp_all [deq]
  | .sl k n xs o, y, h => by
    cases y <;> simp only [deq, Bool.and_eq_true, beq_iff_eq] at h <;> try (cases h; done)
    obtain ⟨⟨⟨rfl, rfl⟩, h1⟩, h2⟩ := h
    rw [oeq_eq h1, deqLL_eq h2]
  | .agg x, y, h => by
    cases y <;> simp only [deq] at h <;> try (cases h; done)
    rw [deqL_eq h]
  | .tup x, y, h => by
    cases y <;> simp only [deq] at h <;> try (cases h; done)
    rw [deqL_eq h]
  | .bx a b, y, h => by cases y <;> simp_all [deq]
  | .el x a, y, h => by
    cases y <;> simp only [deq, Bool.and_eq_true, beq_iff_eq] at h <;> try (cases h; done)
    rw [h.1, deqL_eq h.2]
  | .ar a b c d, y, h => by cases y <;> simp_all [deq]
  | .nilp, y, h => by cases y <;> simp_all [deq]
  | .nilm, y, h => by cases y <;> simp_all [deq]
  | .mp a, y, h => by cases y <;> simp_all [deq]
  | .fn a x, y, h => by
    cases y <;> simp only [deq, Bool.and_eq_true, beq_iff_eq] at h <;> try (cases h; done)
    rw [h.1, deqL_eq h.2]
theorem deqL_eq : ∀ {x y : List D}, deqL x y = true → x = y
  | [], [], _ => rfl
  | [], _ :: _, h => by simp [deqL] at h
  | _ :: _, [], h => by simp [deqL] at h
  | x :: l, y :: m, h => by
    simp only [deqL, Bool.and_eq_true] at h
    rw [deq_eq h.1, deqL_eq h.2]
theorem deqLL_eq : ∀ {x y : List (List D)}, deqLL x y = true → x = y
  | [], [], _ => rfl
  | [], _ :: _, h => by simp [deqLL] at h
  | _ :: _, [], h => by simp [deqLL] at h
  | x :: l, y :: m, h => by
    simp only [deqLL, Bool.and_eq_true] at h
    rw [deqL_eq h.1, deqLL_eq h.2]
end

section
variable {cf : CallF} {fr fr' : List D} {S S' : Store}

/-- What an item says at its place, and what is left of it in the last frame. -/
def Hold (cf : CallF) (frp fr' : List D) (S1 S2 : Store) (i : I) : Prop :=
  ∀ dst gd r, asOp i = some (dst, gd, r) → ∃ b, DE.wanted frp gd = some b ∧
    (b = true → ∃ d, evR cf frp S1 r = some (d, S2) ∧ ∀ t, dst = some t → fget fr' t = if t < fr'.length then d else .top) ∧
    (b = false → S2 = S1 ∧ ∀ t, dst = some t → fget fr' t = if t < fr'.length then .tup [] else .top)

theorem fget_fsetO (fr : List D) (dst : Option Nat) (d : D) (t : Nat) (h : dst ≠ some t) : fget (fsetO fr dst d) t = fget fr t := by
  cases dst with
  | none => rfl
  | some u =>
    simp only [fsetO, fget_fset]
    rw [if_neg (fun hh => h (by rw [hh.1]))]

theorem fget_fsetO_self (fr : List D) (t : Nat) (d : D) : fget (fsetO fr (some t) d) t = if t < fr.length then d else .top := by
  simp only [fsetO, fget_fset, true_and]
  by_cases h : t < fr.length
  · rw [if_pos h, if_pos h]
  · rw [if_neg h, if_neg h, fget_ge _ _ (by omega)]

theorem fsetO_length (fr : List D) (dst : Option Nat) (d : D) : (fsetO fr dst d).length = fr.length := by
  cases dst with
  | none => rfl
  | some t => exact fset_length _ _ _

theorem evI_frame {i : I} (hfz : asOp i ≠ none) (h : evI cf fr S i = some (fr', S')) : fr'.length = fr.length ∧ ∀ t, dstI i ≠ some t → fget fr' t = fget fr t := by
  cases i with
  | op dst gd r =>
    simp only [evI] at h
    split at h
    · cases hr : evR cf fr S r with
      | none => simp [hr] at h
      | some p =>
        simp only [hr, Option.map_some, Option.some.injEq, Prod.mk.injEq] at h
        obtain ⟨rfl, rfl⟩ := h
        exact ⟨fsetO_length _ _ _, fun t ht => fget_fsetO _ _ _ _ ht⟩
    · simp only [Option.some.injEq, Prod.mk.injEq] at h
      obtain ⟨rfl, rfl⟩ := h
      exact ⟨fsetO_length _ _ _, fun t ht => fget_fsetO _ _ _ _ ht⟩
    · cases h
  | fz t => simp [asOp] at hfz
  | ck t r =>
    simp only [evI] at h
    split at h
    · split at h
      · simp only [Option.some.injEq, Prod.mk.injEq] at h
        obtain ⟨rfl, rfl⟩ := h
        exact ⟨rfl, fun _ _ => rfl⟩
      · cases h
    · cases h

theorem evI_store {i : I} (hx : isX i = false) (hck : ckOk i = true) (hfz : asOp i ≠ none) (h : evI cf fr S i = some (fr', S')) : S' = S := by
  cases i with
  | op dst gd r =>
    simp only [evI] at h
    split at h
    · cases hr : evR cf fr S r with
      | none => simp [hr] at h
      | some p =>
        simp only [hr, Option.map_some, Option.some.injEq, Prod.mk.injEq] at h
        obtain ⟨rfl, rfl⟩ := h
        exact evR_same (d := p.1) (by simpa [isX, kdX] using hx) hr
    · simp only [Option.some.injEq, Prod.mk.injEq] at h
      exact h.2.symm
    · cases h
  | fz t => simp [asOp] at hfz
  | ck t r =>
    simp only [evI] at h
    split at h
    · split at h
      · simp only [Option.some.injEq, Prod.mk.injEq] at h
        exact h.2.symm
      · cases h
    · cases h

theorem noDst_get {u : Nat} {l : List (Nat × I)} (h : noDst u l = true) : ∀ q ∈ l, dstI q.2 ≠ some u := fun q hq => by
  simpa using List.all_eq_true.1 h q hq

/-- One item. -/
theorem evI_hold {i : I} {fr1 : List D} {S1 : Store} (hck : ckOk i = true) (h : evI cf fr S i = some (fr1, S1)) (hl : fr'.length = fr.length)
    (hd : ∀ t, (dstI i = some t ∨ ∃ r, i = .ck t r) → fget fr' t = fget fr1 t) : Hold cf fr fr' S S1 i := by
  intro dst gd r ha
  cases i with
  | op dst' gd' r' =>
    simp only [asOp, Option.some.injEq, Prod.mk.injEq] at ha
    obtain ⟨rfl, rfl, rfl⟩ := ha
    simp only [evI] at h
    split at h
    · rename_i hwt
      refine ⟨true, hwt, fun _ => ?_, fun h => (by cases h)⟩
      cases he : evR cf fr S r' with
      | none => simp [he] at h
      | some p =>
        simp only [he, Option.map_some, Option.some.injEq, Prod.mk.injEq] at h
        obtain ⟨rfl, rfl⟩ := h
        refine ⟨p.1, rfl, fun t ht => ?_⟩
        subst ht
        rw [hd t (.inl rfl), fget_fsetO_self, hl]
    · rename_i hwf
      simp only [Option.some.injEq, Prod.mk.injEq] at h
      obtain ⟨rfl, rfl⟩ := h
      refine ⟨false, hwf, fun h => (by cases h), fun _ => ⟨rfl, fun t ht => ?_⟩⟩
      subst ht
      rw [hd t (.inl rfl), fget_fsetO_self, hl]
    · cases h
  | fz t => simp [asOp] at ha
  | ck t r' =>
    simp only [asOp, Option.some.injEq, Prod.mk.injEq] at ha
    obtain ⟨rfl, rfl, rfl⟩ := ha
    refine ⟨true, rfl, fun _ => ?_, fun h => (by cases h)⟩
    simp only [evI] at h
    split at h
    · rename_i d T he
      split at h
      · rename_i hdq
        simp only [Option.some.injEq, Prod.mk.injEq] at h
        obtain ⟨rfl, rfl⟩ := h
        have hk : kdX r' = false := by simpa [ckOk] using hck
        have := evR_same (d := d) hk he
        subst this
        refine ⟨d, he, fun u hu => ?_⟩
        injection hu with hu; subst hu
        rw [hd t (.inr ⟨r', rfl⟩), deq_eq hdq, hl]
        by_cases hlt : t < fr.length
        · rw [if_pos hlt]
        · rw [if_neg hlt, fget_ge _ _ (by omega)]
      · cases h
    · cases h

theorem trace : ∀ (is : List (Nat × I)) {fr S fr' S'}, evIs cf fr S (snds is) = some (fr', S') → uniq is = true → (∀ q ∈ is, asOp q.2 ≠ none ∧ ckOk q.2 = true) →
    fr'.length = fr.length ∧ (∀ t, (∀ q ∈ is, dstI q.2 ≠ some t) → fget fr' t = fget fr t) ∧
    ∃ sto : Nat → Store, sto 0 = S ∧ sto (nX is) = S' ∧ ∀ pre j i post, is = pre ++ (j, i) :: post → ∃ frp, frp.length = fr.length ∧ (∀ u, noDst u pre = true → fget frp u = fget fr u) ∧
      (∀ u, noDst u ((j, i) :: post) = true → fget frp u = fget fr' u) ∧ Hold cf frp fr' (sto (nX pre)) (sto (nX pre + if isX i then 1 else 0)) i
  | [], fr, S, fr', S', h, _, _ => by
    simp only [snds, evIs, Option.some.injEq, Prod.mk.injEq] at h
    obtain ⟨rfl, rfl⟩ := h
    exact ⟨rfl, fun _ _ => rfl, fun _ => S, rfl, rfl, fun pre j i post h => by cases pre <;> cases h⟩
  | (j, i) :: is, fr, S, fr', S', h, hsep, hok => by
    simp only [snds, evIs] at h
    split at h
    · rename_i fr1 S1 he
      simp only [uniq, Bool.and_eq_true] at hsep
      obtain ⟨hs2, hs3⟩ := hsep
      obtain ⟨hfz, hck⟩ := hok (j, i) (by simp)
      obtain ⟨hl, hun, sto, e0, em, hhold⟩ := trace is h hs3 fun q hq => hok q (by simp [hq])
      obtain ⟨hl1, hf1⟩ := evI_frame hfz he
      have hlen : fr'.length = fr.length := hl.trans hl1
      have hunt : ∀ t, (∀ q ∈ (j, i) :: is, dstI q.2 ≠ some t) → fget fr' t = fget fr t := fun t ht =>
        (hun t fun q hq => ht q (by simp [hq])).trans (hf1 t (ht (j, i) (by simp)))
      have hhd : Hold cf fr fr' S S1 i := by
        refine evI_hold hck he hlen fun t ht => hun t ?_
        rcases ht with ht | ⟨r, rfl⟩
        · cases i with
          | op dst gd r =>
            simp only [dstI] at ht
            subst ht
            exact noDst_get hs2
          | fz u => simp [asOp] at hfz
          | ck u r => cases ht
        · exact noDst_get hs2
      have head : ∃ frp, frp.length = fr.length ∧ (∀ u, noDst u [] = true → fget frp u = fget fr u) ∧ (∀ u, noDst u ((j, i) :: is) = true → fget frp u = fget fr' u) ∧ Hold cf frp fr' S S1 i :=
        ⟨fr, rfl, fun _ _ => rfl, fun u hu => (hunt u (noDst_get hu)).symm, hhd⟩
      have later : ∀ pre j' i' post T1 T2, (∃ frp, frp.length = fr1.length ∧ (∀ u, noDst u pre = true → fget frp u = fget fr1 u) ∧ (∀ u, noDst u ((j', i') :: post) = true → fget frp u = fget fr' u) ∧ Hold cf frp fr' T1 T2 i') →
          ∃ frp, frp.length = fr.length ∧ (∀ u, noDst u ((j, i) :: pre) = true → fget frp u = fget fr u) ∧ (∀ u, noDst u ((j', i') :: post) = true → fget frp u = fget fr' u) ∧ Hold cf frp fr' T1 T2 i' := by
        rintro pre j' i' post T1 T2 ⟨frp, a1, a2, a3, a4⟩
        refine ⟨frp, a1.trans hl1, fun u hu => ?_, a3, a4⟩
        have hu' := noDst_get hu
        rw [a2 u (by simp only [noDst, List.all_cons, Bool.and_eq_true] at hu ⊢; exact hu.2)]
        exact hf1 u (hu' (j, i) (by simp))
      cases hx : isX i with
      | false =>
        have hst := evI_store hx hck hfz he
        subst hst
        refine ⟨hlen, hunt, sto, e0, by simp only [nX, hx]; simpa using em, fun pre j' i' post hp => ?_⟩
        cases pre with
        | nil =>
          simp only [List.nil_append, List.cons.injEq, Prod.mk.injEq] at hp
          obtain ⟨⟨rfl, rfl⟩, rfl⟩ := hp
          simp only [nX, hx, Bool.false_eq_true, if_false, Nat.add_zero, e0]
          exact head
        | cons q pre =>
          simp only [List.cons_append, List.cons.injEq] at hp
          obtain ⟨rfl, hp⟩ := hp
          simp only [nX, hx, Bool.false_eq_true, if_false, Nat.zero_add]
          exact later pre j' i' post _ _ (hhold pre j' i' post hp)
      | true =>
        refine ⟨hlen, hunt, fun n => match n with | 0 => S | n + 1 => sto n, rfl, by simp only [nX, hx, if_true]; rw [Nat.add_comm]; exact em, fun pre j' i' post hp => ?_⟩
        cases pre with
        | nil =>
          simp only [List.nil_append, List.cons.injEq, Prod.mk.injEq] at hp
          obtain ⟨⟨rfl, rfl⟩, rfl⟩ := hp
          simp only [nX, hx, if_true, Nat.zero_add, e0]
          exact head
        | cons q pre =>
          simp only [List.cons_append, List.cons.injEq] at hp
          obtain ⟨rfl, hp⟩ := hp
          have := later pre j' i' post _ _ (hhold pre j' i' post hp)
          simp only [nX, hx, if_true]
          rw [Nat.add_comm 1 (nX pre), Nat.add_right_comm]
          exact this
    · cases h

theorem usesOk_get {ops : List Oper} {B : List Nat} : ∀ {l pre : List (Nat × I)}, usesOk ops B pre l = true → ∀ p j i post, l = p ++ (j, i) :: post → useOk ops B (pre ++ p) j i post = true
  | [], _, _, p, j, i, post, h => by cases p <;> cases h
  | (j', i') :: l, pre, hu, p, j, i, post, h => by
    simp only [usesOk, Bool.and_eq_true] at hu
    cases p with
    | nil =>
      simp only [List.nil_append, List.cons.injEq, Prod.mk.injEq] at h
      obtain ⟨⟨rfl, rfl⟩, rfl⟩ := h
      simpa using hu.1
    | cons q p =>
      simp only [List.cons_append, List.cons.injEq] at h
      obtain ⟨rfl, h⟩ := h
      have := usesOk_get hu.2 p j i post h
      simpa using this

end

/-! ## What stands before what -/

inductive Bef (ops : List Oper) : Nat → Nat → Prop
  | edge {j : Nat} {o : Oper} {e : Edge} (ho : ops[j]? = some o) (he : e ∈ o.after.toList) (hb : Region.binds .any e = true) : Bef ops e.on j
  | step {q j : Nat} {o : Oper} {e : Edge} (ho : ops[j]? = some o) (he : e ∈ o.after.toList) (hb : Region.binds .any e = true) (h : Bef ops q e.on) : Bef ops q j

theorem fold_bit (acc : List Nat) : ∀ (l : List Edge) (s q : Nat), (l.foldl (fun s e => if Region.binds .any e then s ||| 2 ^ e.on ||| acc.getD e.on 0 else s) s).testBit q = true →
    s.testBit q = true ∨ ∃ e ∈ l, Region.binds .any e = true ∧ (q = e.on ∨ (acc.getD e.on 0).testBit q = true)
  | [], s, q, h => .inl h
  | e :: l, s, q, h => by
    simp only [List.foldl_cons] at h
    rcases fold_bit acc l _ q h with h | ⟨e', he', h1, h2⟩
    · split at h
      · rename_i hb
        simp only [Nat.testBit_or, Bool.or_eq_true, Nat.testBit_two_pow, decide_eq_true_eq] at h
        rcases h with (h | h) | h
        · exact .inl h
        · exact .inr ⟨e, by simp, hb, .inl h.symm⟩
        · exact .inr ⟨e, by simp, hb, .inr h⟩
      · exact .inl h
    · exact .inr ⟨e', by simp [he'], h1, h2⟩

theorem befores_ok : ∀ (l pre : List Oper) (acc : List Nat), acc.length = pre.length → (∀ j q, (acc.getD j 0).testBit q = true → Bef (pre ++ l) q j) →
    ∀ j q, ((befores l acc).getD j 0).testBit q = true → Bef (pre ++ l) q j
  | [], pre, acc, _, h => h
  | o :: l, pre, acc, hl, h => by
    intro j q hq
    have e : pre ++ o :: l = (pre ++ [o]) ++ l := by simp
    simp only [befores] at hq
    rw [e]
    refine befores_ok l (pre ++ [o]) _ (by simp [hl]) (fun j q hj => ?_) j q hq
    rw [← e]
    by_cases h1 : j < acc.length
    · refine h j q ?_
      rw [List.getD_eq_getElem?_getD, List.getElem?_append_left h1, ← List.getD_eq_getElem?_getD] at hj
      exact hj
    · by_cases h2 : j = acc.length
      · subst h2
        rw [List.getD_eq_getElem?_getD, List.getElem?_append_right (Nat.le_refl _)] at hj
        simp only [Nat.sub_self, List.getElem?_cons_zero, Option.getD_some] at hj
        have ho : (pre ++ o :: l)[acc.length]? = some o := by rw [hl]; simp
        rcases fold_bit acc _ _ _ hj with h3 | ⟨e', he', hb, h3 | h3⟩
        · simp at h3
        · subst h3
          exact .edge ho he' hb
        · exact .step ho he' hb (h _ _ h3)
      · rw [List.getD_eq_getElem?_getD, List.getElem?_eq_none (by simp; omega)] at hj
        simp at hj

theorem bbit_bef {ops : List Oper} {q j : Nat} (h : bbit (befores ops []) q j = true) : Bef ops q j :=
  befores_ok ops [] [] rfl (fun j q h => by simp at h) j q h

theorem Bef.closed {ops : List Oper} {L : Nat → Prop} (hcl : ∀ j o e, L j → ops[j]? = some o → e ∈ o.after.toList → Region.binds .any e = true → L e.on) {q j : Nat} (h : Bef ops q j) :
    (∀ o e, ops[j]? = some o → e ∈ o.after.toList → Region.binds .any e = true → L e.on) → L q := by
  induction h with
  | edge ho he hb => exact fun hj => hj _ _ ho he hb
  | step ho he hb h ih => exact fun hj => ih fun o e h1 h2 h3 => hcl _ o e (hj _ _ ho he hb) h1 h2 h3

theorem mem_ann : ∀ {is : List (Nat × I)} {n k j : Nat} {i : I}, (k, j, i) ∈ ann n is → ∃ pre post, is = pre ++ (j, i) :: post ∧ k = n + nX pre
  | [], _, _, _, _, h => by simp [ann] at h
  | (j', i') :: is, n, k, j, i, h => by
    simp only [ann, List.mem_cons, Prod.mk.injEq] at h
    rcases h with ⟨rfl, rfl, rfl⟩ | h
    · exact ⟨[], is, rfl, by simp [nX]⟩
    · obtain ⟨pre, post, h1, h2⟩ := mem_ann h
      refine ⟨(j', i') :: pre, post, by rw [h1]; rfl, ?_⟩
      simp only [nX]
      omega

theorem xs_get : ∀ {is pre : List (Nat × I)} {j : Nat} {i : I} {post : List (Nat × I)}, is = pre ++ (j, i) :: post → isX i = true → (xsOf is)[nX pre]? = some j
  | _, [], j, i, post, rfl, hx => by simp [xsOf, hx, nX]
  | _, (j', i') :: pre, j, i, post, rfl, hx => by
    have ih := xs_get (is := pre ++ (j, i) :: post) rfl hx
    simp only [List.cons_append, xsOf, nX]
    split
    · rw [Nat.add_comm, List.getElem?_cons_succ]; exact ih
    · rw [Nat.zero_add]; exact ih

theorem xs_ann : ∀ {is : List (Nat × I)} {p j : Nat} (n : Nat), (xsOf is)[p]? = some j → ∃ i, (n + p, j, i) ∈ ann n is ∧ isX i = true
  | [], _, _, _, h => by simp [xsOf] at h
  | (j', i') :: is, p, j, n, h => by
    simp only [xsOf] at h
    simp only [ann]
    cases hx : isX i' with
    | true =>
      rw [hx, if_pos rfl] at h
      cases p with
      | zero =>
        simp at h; subst h
        exact ⟨i', by simp, hx⟩
      | succ p =>
        obtain ⟨i, h1, h2⟩ := xs_ann (1 + n) (by simpa using h)
        refine ⟨i, ?_, h2⟩
        simp only [if_true, List.mem_cons]
        rw [show n + (p + 1) = 1 + n + p by omega]
        exact .inr h1
    | false =>
      rw [hx] at h
      simp only [Bool.false_eq_true, if_false] at h
      obtain ⟨i, h1, h2⟩ := xs_ann (0 + n) h
      refine ⟨i, ?_, h2⟩
      simp only [Bool.false_eq_true, if_false, List.mem_cons]
      rw [Nat.zero_add] at h1 ⊢
      exact .inr h1

theorem xs_len : ∀ (is : List (Nat × I)), (xsOf is).length = nX is
  | [] => rfl
  | (j, i) :: is => by
    simp only [xsOf, nX]
    split
    · simp [xs_len is]; omega
    · simp [xs_len is]

theorem ndB_ne : ∀ {l : List Nat} {i j x y : Nat}, ndB l = true → l[i]? = some x → l[j]? = some y → i ≠ j → x ≠ y
  | [], _, _, _, _, _, h, _, _ => by simp at h
  | a :: l, 0, 0, _, _, _, _, _, h => absurd rfl h
  | a :: l, 0, j + 1, x, y, hn, h1, h2, _ => by
    simp only [ndB, Bool.and_eq_true, List.all_eq_true] at hn
    simp at h1 h2
    have := hn.1 y (List.mem_of_getElem? h2)
    simp at this
    rw [← h1]; exact fun e => this e.symm
  | a :: l, i + 1, 0, x, y, hn, h1, h2, _ => by
    simp only [ndB, Bool.and_eq_true, List.all_eq_true] at hn
    simp at h1 h2
    have := hn.1 x (List.mem_of_getElem? h1)
    simp at this
    rw [← h2]; exact this
  | a :: l, i + 1, j + 1, x, y, hn, h1, h2, h => by
    simp only [ndB, Bool.and_eq_true] at hn
    exact ndB_ne hn.2 (by simpa using h1) (by simpa using h2) (by omega)

theorem chain_get {B : List Nat} : ∀ {l : List Nat} {i x y : Nat}, chainB B l = true → l[i]? = some x → l[i + 1]? = some y → bbit B x y = true
  | [], _, _, _, _, h, _ => by simp at h
  | [_], 0, _, _, _, _, h => by simp at h
  | [_], _ + 1, _, _, _, h, _ => by simp at h
  | a :: b :: l, 0, x, y, hc, h1, h2 => by
    simp only [chainB, Bool.and_eq_true] at hc
    simp at h1 h2
    subst h1 h2
    exact hc.1
  | a :: b :: l, i + 1, x, y, hc, h1, h2 => by
    simp only [chainB, Bool.and_eq_true] at hc
    exact chain_get hc.2 (by simpa using h1) (by simpa using h2)

theorem count_lt {p p' : Nat → Bool} : ∀ {l : List Nat} {x : Nat}, (∀ y ∈ l, p' y = true → p y = true) → x ∈ l → p x = true → p' x = false → l.countP p' < l.countP p
  | [], _, _, h, _, _ => by simp at h
  | y :: l, x, hm, hx, h1, h2 => by
    have hle : l.countP p' ≤ l.countP p := List.countP_mono_left fun z hz => hm z (by simp [hz])
    simp only [List.countP_cons]
    by_cases hxy : x = y
    · subst hxy
      simp [h1, h2]; omega
    · have := count_lt (p := p) (p' := p') (l := l) (fun z hz => hm z (by simp [hz])) (by simpa [hxy] using hx) h1 h2
      have hy := hm y (by simp)
      cases hp : p' y with
      | false => simp; omega
      | true => simp [hy hp]; omega

end Go.Proofs.YtjlmeikcfdanmaaGreatDoor.DE
