/-
  CODE AND FUNCTIONS: what the evaluator says, the program does.
-/
import Derived.Test.YtjlmeikcfdanmaaGreatDoorDe20
namespace Go.Proofs.YtjlmeikcfdanmaaGreatDoor.DE
open Go

section
variable (P : Program) (dp : Nat → Option Fn)

def mC : C → Code → Bool
  | .bad, _ => true
  | .skip, .skip => true
  | .reg is _, .region _ ops false => mReg P dp ops.toList ops.toList is
  | .dreg is _, .region _ ops true => mDr P dp ops.toList is
  | .seq a b, .seq c d => mC a c && mC b d
  | .cond x a b, .cond y c d => mA dp y x && mC a c && mC b d
  | .blk i a, .block j b => i == j && mC a b
  | .loop _ a, .loop b => mC a b
  | .exit i, .exit j => i == j
  | .ret, .ret => true
  | _, _ => false

def mRes : List ResultVar → List Res → Bool
  | [], [] => true
  | .tmp t :: l, .t n :: m => t == n && mRes l m
  | .cell a t :: l, .cell n k g :: m => a == n && mT P t k g && mRes l m
  | _, _ => false

def mFn (f : Fn) : Bool := match P.funcs[f.real]? with
  | some fn => fn.name != "runtime.NumGoroutine" && fn.ntmps == f.nt && mRes P fn.results.toList f.res && (match fn.body with | some c => mC P dp f.body c | none => false)
  | none => false

/-- The evaluator's table of functions is the program's. -/
def Good : Prop := ∀ g f, dp g = some f → mFn P dp f = true

end

section
variable {P : Program} {dp : Nat → Option Fn} {F F' : Fix} {G G' : List Gh} {w w' : World} {S S' : Store} {a : Act} {fr fr' : List D} {o : Oper} {d : D} {cf : CallF}

theorem Good.enter (h : Good P dp) : Enter P dp := by
  intro g f hg
  have hm := h g f hg
  unfold mFn at hm
  split at hm
  · rename_i fn hfn
    simp only [Bool.and_eq_true, bne_iff_ne, ne_eq] at hm
    refine ⟨fn, hfn, by simpa using hm.1.1.1, ?_⟩
    have := hm.2
    split at this
    · rename_i c hc; simp [hc]
    · cases this
  · cases hm

def toExit : Ex → Exit
  | .normal => .normal
  | .exit id => .exit id
  | .ret => .ret

theorem wp_loop_n {c : Code} {Q : Exit → Act → World → Prop} (J : Nat → Act → World → Prop) (round : ∀ n a w, J n a w → c.wp P (Exit.then (fun a' w' => ∃ m, m < n ∧ J m a' w') Q) a w) :
    ∀ (n : Nat) (a : Act) (w : World), J n a w → (Code.loop c).wp P Q a w := by
  have key : ∀ n a w, J n a w → ∀ (b : Frame) (k : List Item) (cs : List Frame), ∃ e a' w', Q e a' w' ∧ Arrives P (lone (b.at a (.code c :: .inLoop c :: k)) cs w) b k cs e a' w' := by
    intro n
    induction n using Nat.strongRecOn with
    | _ n ih =>
      intro a w hI b k cs
      obtain ⟨e, a₁, w₁, hq, harr⟩ := round n a w hI b (.inLoop c :: k) cs
      cases e with
      | normal =>
        obtain ⟨m, hlt, hI₁⟩ := hq
        obtain ⟨e₂, a₂, w₂, hq₂, harr₂⟩ := ih m hlt a₁ w₁ hI₁ b k cs
        exact ⟨e₂, a₂, w₂, hq₂, .of_steps (Steps.trans harr (.one step_inLoop)) harr₂⟩
      | exit id => exact ⟨_, a₁, w₁, hq, .pass (x := .inLoop c) rfl (fun _ _ => .inl (by simp)) harr⟩
      | goto l => exact ⟨_, a₁, w₁, hq, .pass (x := .inLoop c) rfl (fun _ _ => .inl (by simp)) harr⟩
      | ret => exact ⟨_, a₁, w₁, hq, .pass (x := .inLoop c) rfl (fun _ _ => .inl (by simp)) harr⟩
      | panic ch => exact ⟨_, a₁, w₁, hq, .pass (x := .inLoop c) rfl (fun _ _ => .inl (by simp)) harr⟩
      | outgrown => exact ⟨_, a₁, w₁, hq, .pass (x := .inLoop c) rfl (fun _ _ => .inl (by simp)) harr⟩
  intro n a w h b k cs
  obtain ⟨e, a', w', hq, harr⟩ := key n a w h b k cs
  exact ⟨e, a', w', hq, .of_steps (.one step_loop) harr⟩

theorem ok_code (hfol : P.follows .mixedOrders = true) (hc : CallOk P dp cf) (hen : Enter P dp) (n : Nat) : ∀ (c : C) (code : Code), mC P dp c code = true → ∀ {fr S ex fr' S'}, exec cf n c fr S = some (ex, fr', S') →
    ∀ ⦃F G w a Q⦄, Sim dp F G w S → Fr dp F G w a fr →
      (∀ a' w' F' G', Sim dp F' G' w' S' → Ext F G w S F' G' w' S' → Fr dp F' G' w' a' fr' → a'.defers = a.defers → Q (toExit ex) a' w') → code.wp P Q a w
  | .bad, _, _, _, _, _, _, _, he => by cases he
  | .skip, code, hm, fr, S, ex, fr', S', he => by
    intro F G w a Q hs hf hQ
    cases code <;> simp only [mC] at hm <;> try (cases hm; done)
    simp only [exec, Option.some.injEq, Prod.mk.injEq] at he
    obtain ⟨rfl, rfl, rfl⟩ := he
    exact wp_skip (hQ a w F G hs (Ext.refl _ _ _ _) hf rfl)
  | .reg is kl, code, hm, fr, S, ex, fr', S', he => by
    intro F G w a Q hs hf hQ
    obtain ⟨id, ops, rfl⟩ : ∃ id ops, code = .region id ops false := by
      cases code
      case region id ops draw =>
        cases draw
        · exact ⟨id, ops, rfl⟩
        · simp [mC] at hm
      all_goals (simp [mC] at hm)
    simp only [mC] at hm
    simp only [exec] at he
    split at he
    · rename_i fr1 S1 hev
      simp only [Option.some.injEq, Prod.mk.injEq] at he
      obtain ⟨rfl, rfl, rfl⟩ := he
      exact wp_region_list (ok_reg hc hen is _ hm hev hs hf fun a' w' F' G' k1 k2 k3 k4 => hQ a' w' F' G' k1 k2 (k3.kill kl) k4)
    · cases he
  | .dreg is kl, code, hm, fr, S, ex, fr', S', he => by
    intro F G w a Q hs hf hQ
    obtain ⟨id, ops, rfl⟩ : ∃ id ops, code = .region id ops true := by
      cases code
      case region id ops draw =>
        cases draw
        · simp [mC] at hm
        · exact ⟨id, ops, rfl⟩
      all_goals (simp [mC] at hm)
    simp only [mC] at hm
    simp only [exec] at he
    split at he
    · rename_i fr1 S1 hev
      simp only [Option.some.injEq, Prod.mk.injEq] at he
      obtain ⟨rfl, rfl, rfl⟩ := he
      exact wp_dreg hfol hc hen hm hev hs hf fun a' w' F' G' k1 k2 k3 k4 => hQ a' w' F' G' k1 k2 (k3.kill kl) k4
    · cases he
  | .seq x y, code, hm, fr, S, ex, fr', S', he => by
    intro F G w a Q hs hf hQ
    cases code <;> simp only [mC, Bool.and_eq_true] at hm <;> try (cases hm; done)
    rename_i x' y'
    refine wp_seq ?_
    simp only [exec] at he
    split at he
    · rename_i fr1 S1 hev
      refine ok_code hfol hc hen n x x' hm.1 hev hs hf fun a' w' F' G' k1 k2 k3 k4 => ?_
      exact ok_code hfol hc hen n y y' hm.2 he k1 k3 fun a'' w'' F'' G'' q1 q2 q3 q4 => hQ a'' w'' F'' G'' q1 (k2.trans q2) q3 (q4.trans k4)
    · rename_i hno
      refine ok_code hfol hc hen n x x' hm.1 he hs hf fun a' w' F' G' k1 k2 k3 k4 => ?_
      have := hQ a' w' F' G' k1 k2 k3 k4
      cases ex with
      | normal => exact (hno fr' S' he).elim
      | exit id => exact this
      | ret => exact this
  | .cond q x y, code, hm, fr, S, ex, fr', S', he => by
    intro F G w a Q hs hf hQ
    cases code <;> simp only [mC, Bool.and_eq_true] at hm <;> try (cases hm; done)
    rename_i q' x' y'
    have hr := hf.eval hm.1.1
    simp only [exec] at he
    split at he
    · rename_i heq
      rw [heq] at hr
      generalize hv : a.eval q' = v at hr
      cases hr
      exact wp_cond_true hv (ok_code hfol hc hen n x x' hm.1.2 he hs hf hQ)
    · rename_i heq
      rw [heq] at hr
      generalize hv : a.eval q' = v at hr
      cases hr
      exact wp_cond_false hv (ok_code hfol hc hen n y y' hm.2 he hs hf hQ)
    · cases he
  | .blk id x, code, hm, fr, S, ex, fr', S', he => by
    intro F G w a Q hs hf hQ
    cases code <;> simp only [mC, Bool.and_eq_true, beq_iff_eq] at hm <;> try (cases hm; done)
    rename_i id' x'
    obtain ⟨rfl, hm⟩ := hm
    refine wp_block ?_
    simp only [exec] at he
    split at he
    · rename_i j fr1 S1 hev
      simp only [Option.some.injEq, Prod.mk.injEq] at he
      obtain ⟨rfl, rfl, rfl⟩ := he
      refine ok_code hfol hc hen n x x' hm hev hs hf fun a' w' F' G' k1 k2 k3 k4 => ?_
      have := hQ a' w' F' G' k1 k2 k3 k4
      simp only [toExit, Exit.inBlock]
      split
      · rename_i hj
        rw [if_pos hj] at this
        exact this
      · rename_i hj
        rw [if_neg hj] at this
        exact this
    · rename_i hno
      refine ok_code hfol hc hen n x x' hm he hs hf fun a' w' F' G' k1 k2 k3 k4 => ?_
      have := hQ a' w' F' G' k1 k2 k3 k4
      cases ex with
      | normal => exact this
      | exit j => exact (hno j fr' S' he).elim
      | ret => exact this
  | .loop kl x, code, hm, fr, S, ex, fr', S', he => by
    intro F G w a Q hs hf hQ
    cases code <;> simp only [mC] at hm <;> try (cases hm; done)
    rename_i x'
    simp only [exec] at he
    refine wp_loop_n (fun m a1 w1 => ∃ fr1 S1 F1 G1, iter (fun fr S => exec cf n x (fkill fr kl) S) m fr1 S1 = some (ex, fr', S') ∧ Sim dp F1 G1 w1 S1 ∧ Ext F G w S F1 G1 w1 S1 ∧ Fr dp F1 G1 w1 a1 fr1 ∧ a1.defers = a.defers)
      (fun m a1 w1 hJ => ?_) n a w ⟨fr, S, F, G, he, hs, Ext.refl _ _ _ _, hf, rfl⟩
    obtain ⟨fr1, S1, F1, G1, hit, k1, k2, k3, k4⟩ := hJ
    cases m with
    | zero => cases hit
    | succ m =>
      simp only [iter] at hit
      split at hit
      · rename_i fr2 S2 hev
        refine ok_code hfol hc hen n x x' hm hev k1 (k3.kill kl) fun a2 w2 F2 G2 q1 q2 q3 q4 => ?_
        exact ⟨m, Nat.lt_succ_self m, fr2, S2, F2, G2, hit, q1, k2.trans q2, q3, q4.trans k4⟩
      · rename_i hno
        refine ok_code hfol hc hen n x x' hm hit k1 (k3.kill kl) fun a2 w2 F2 G2 q1 q2 q3 q4 => ?_
        have := hQ a2 w2 F2 G2 q1 (k2.trans q2) q3 (q4.trans k4)
        cases ex with
        | normal => exact (hno fr' S' hit).elim
        | exit j => exact this
        | ret => exact this
  | .exit id, code, hm, fr, S, ex, fr', S', he => by
    intro F G w a Q hs hf hQ
    cases code <;> simp only [mC, beq_iff_eq] at hm <;> try (cases hm; done)
    subst hm
    simp only [exec, Option.some.injEq, Prod.mk.injEq] at he
    obtain ⟨rfl, rfl, rfl⟩ := he
    exact wp_exit (hQ a w F G hs (Ext.refl _ _ _ _) hf rfl)
  | .ret, code, hm, fr, S, ex, fr', S', he => by
    intro F G w a Q hs hf hQ
    cases code <;> simp only [mC] at hm <;> try (cases hm; done)
    simp only [exec, Option.some.injEq, Prod.mk.injEq] at he
    obtain ⟨rfl, rfl, rfl⟩ := he
    exact wp_ret (hQ a w F G hs (Ext.refl _ _ _ _) hf rfl)

/-! ## Functions -/

theorem ld_var {t : TypeId} {k : Nat} {g : Bool} {v : Value} {id p : Nat} (hT : mT P t k g = true) (hs : Sim dp F G w S) (hr : Rel dp F G w v (.bx id p)) (he : ldD S k g (.bx id p) = some d) :
    ∃ ad u, v = .pointer (some ad) ∧ (loadVar t ad).run P w = .ok u w ∧ Rel dp F G w u d := by
  cases hr with
  | bx _ _ gh hg =>
    simp only [ldD] at he
    split at he
    · rename_i cs hsg
      obtain ⟨vs, T, hh, hl, _, _, hc⟩ := hs.ent id _ gh hsg hg
      have := rd_rel (P := P) (dp := dp) (F := F) (G := G) (w := w) (cs := cs) (k := k) (off := p) (g := g) (t := t) (blk := gh.blk) (base := 0) (c := fun m => vs.getD m undef) hT (fun m e hme => by
        have hlt : m < vs.size := Nat.lt_of_lt_of_le (List.getElem?_eq_some_iff.1 hme).1 hl
        have e1 : vs[m]? = some (vs.getD m undef) := by simp [Array.getD, hlt]
        exact ⟨by rw [Nat.zero_add, cell_box hh, e1], hc m _ e e1 hme⟩) he
      rw [Nat.zero_add] at this
      obtain ⟨u, hu, hru⟩ := this
      exact ⟨_, u, rfl, hu, hru⟩
    · cases he

def resF (a : Act) : ResultVar → Sem Value
  | .tmp t => pure (a.tmps.getD t undef)
  | .cell b t => do loadVar t (← asAddr (a.tmps.getD b undef))

theorem results_eq (fn : Func) (a : Act) : results fn a.tmps = (do let vs ← fn.results.mapM (resF a); pure (if h : vs.size = 1 then vs[0] else .tuple vs)) := by
  unfold results
  congr 1

theorem run_results (hs : Sim dp F G w S) (hf : Fr dp F G w a fr) : ∀ {rs : List ResultVar} {ms : List Res} {l : List D}, mRes P rs ms = true → resL fr S ms = some l →
    ∃ vs : List Value, (rs.mapM (resF a)).run P w = .ok vs w ∧ vs.length = l.length ∧
      ∀ (j : Nat) (v : Value) (d : D), vs[j]? = some v → l[j]? = some d → Rel dp F G w v d
  | [], [], l, _, he => by
    simp only [resL, Option.some.injEq] at he
    subst he
    exact ⟨[], rfl, rfl, fun j v d h => by simp at h⟩
  | [], _ :: _, _, hm, _ => by simp [mRes] at hm
  | .tmp t :: rs, [], _, hm, _ => by simp [mRes] at hm
  | .cell b t :: rs, [], _, hm, _ => by simp [mRes] at hm
  | .tmp t :: rs, .cell n k g :: ms, _, hm, _ => by simp [mRes] at hm
  | .cell b t :: rs, .t n :: ms, _, hm, _ => by simp [mRes] at hm
  | .tmp t :: rs, .t n :: ms, l, hm, he => by
    simp only [mRes, Bool.and_eq_true, beq_iff_eq] at hm
    obtain ⟨rfl, hm⟩ := hm
    simp only [resL, res1] at he
    cases hr : resL fr S ms with
    | none => simp [hr] at he
    | some m =>
      simp only [hr, Option.some.injEq] at he
      subst he
      obtain ⟨vs, h1, h2, h3⟩ := run_results hs hf hm hr
      refine ⟨a.tmps.getD t undef :: vs, ?_, by simp [h2], fun j v d hv hd => ?_⟩
      · simp only [List.mapM_cons, resF, Sem.run_bind, Sem.run_pure, Result.andThen, h1]
      · cases j with
        | zero => simp at hv hd; subst hv hd; simpa using hf.rel t
        | succ j => exact h3 j v d (by simpa using hv) (by simpa using hd)
  | .cell b t :: rs, .cell n k g :: ms, l, hm, he => by
    simp only [mRes, Bool.and_eq_true, beq_iff_eq] at hm
    obtain ⟨⟨rfl, hT⟩, hm⟩ := hm
    simp only [resL] at he
    split at he
    · rename_i d m hd hr
      simp only [Option.some.injEq] at he
      subst he
      obtain ⟨vs, h1, h2, h3⟩ := run_results hs hf hm hr
      simp only [res1] at hd
      split at hd
      · rename_i id p heq
        have hrel := hf.rel b
        rw [heq] at hrel
        obtain ⟨ad, u, q1, q2, q3⟩ := ld_var hT hs hrel hd
        refine ⟨u :: vs, ?_, by simp [h2], fun j v d hv hd => ?_⟩
        · have qa : (asAddr (a.tmps.getD b undef)).run P w = .ok ad w := by rw [q1]; rfl
          simp only [List.mapM_cons, resF, Sem.run_bind, qa, Sem.run_pure, Result.andThen, q2, h1]
        · cases j with
          | zero => simp at hv hd; subst hv hd; exact q3
          | succ j => exact h3 j v d (by simpa using hv) (by simpa using hd)
      · cases hd
    · cases he

theorem run_res {fn : Func} {f : Fn} {l : List D} (hs : Sim dp F G w S) (hf : Fr dp F G w a fr) (hm : mRes P fn.results.toList f.res = true) (he : resL fr S f.res = some l) :
    ∃ v, (results fn a.tmps).run P w = .ok v w ∧ Rel dp F G w v (resD l) := by
  obtain ⟨vs, h1, h2, h3⟩ := run_results hs hf hm he
  have hmap : (fn.results.mapM (resF a)).run P w = .ok vs.toArray w := by
    rw [Array.mapM_eq_mapM_toList, Sem.run_map, h1]
    rfl
  refine ⟨if h : vs.toArray.size = 1 then vs.toArray[0] else .tuple vs.toArray, ?_, ?_⟩
  · rw [results_eq, Sem.run_bind, hmap]
    rfl
  · by_cases h : vs.length = 1
    · match vs, l, h, h2 with
      | [v], [d], _, _ =>
        simp [resD]
        exact h3 0 v d rfl rfl
    · rw [dif_neg (by simpa using h)]
      have : resD l = .tup l := by
        match l, h2 with
        | [], _ => rfl
        | [d], h2 => exact absurd h2 (by simpa using h)
        | _ :: _ :: _, _ => rfl
      rw [this]
      exact .tup _ _ (by simpa using h2) fun j v d hv hd => h3 j v d (by simpa using hv) hd

theorem fget_append (l m : List D) (t : Nat) : fget (l ++ m) t = if t < l.length then fget l t else fget m (t - l.length) := by
  induction l generalizing t with
  | nil => simp
  | cons x l ih =>
    cases t with
    | zero => simp [fget]
    | succ t =>
      simp only [List.cons_append, fget, ih, List.length_cons]
      by_cases h : t < l.length
      · rw [if_pos h, if_pos (by omega)]
      · rw [if_neg h, if_neg (by omega)]; congr 1; omega

theorem fget_rep (n t : Nat) : fget (List.replicate n D.top) t = .top := by
  induction n generalizing t with
  | zero => rfl
  | succ n ih =>
    cases t with
    | zero => rfl
    | succ t => simp only [List.replicate_succ, fget, ih]

theorem call_ok (hfol : P.follows .mixedOrders = true) (hgood : Good P dp) : ∀ n, CallOk P dp (callN dp n) := by
  have hen := hgood.enter
  intro n
  induction n with
  | zero =>
    intro g f args S r S' _ he
    cases he
  | succ n ih =>
    intro g f args S r S' hg he F G w vs hs hv R hR
    simp only [callN, hg] at he
    split at he
    · rename_i hnp
      have hm := hgood g f hg
      unfold mFn at hm
      split at hm
      · rename_i fn hfn
        simp only [Bool.and_eq_true, beq_iff_eq] at hm
        obtain ⟨⟨⟨_, hnt⟩, hres⟩, hbody⟩ := hm
        split at hbody
        · rename_i code hcode
          refine calls_of_wp hfn hcode ?_
          have hfr : Fr dp F G w { tmps := vs ++ Array.replicate (fn.ntmps - vs.size) undef, defers := [] } (frame0 f args) := by
            refine ⟨?_, fun t => ?_⟩
            · simp [frame0, hv.1, hnt, hnp.1]
            · simp only [frame0, fget_append]
              by_cases ht : t < args.length
              · rw [if_pos ht]
                have ht' : t < vs.size := by rw [hv.1]; exact ht
                have e1 : (vs ++ Array.replicate (fn.ntmps - vs.size) undef).getD t undef = vs[t] := by
                  simp [Array.getElem?_append, ht']
                rw [e1, fget_getElem args t args[t] (List.getElem?_eq_getElem ht)]
                exact hv.2 t _ _ (Array.getElem?_eq_getElem ht') (List.getElem?_eq_getElem ht)
              · rw [if_neg ht, fget_rep]
                exact .top _
          have fin : ∀ (fr' : List D) (S1 : Store) (l : List D), resL fr' S1 f.res = some l → r = resD l → S' = S1 → ∀ a' w' F' G', Sim dp F' G' w' S1 → Ext F G w S F' G' w' S1 → Fr dp F' G' w' a' fr' → a'.defers = [] →
              a'.defers = [] ∧ ∃ v, (results fn a'.tmps).run P w' = .ok v w' ∧ R (.returned v) w' := by
            intro fr' S1 l h1 h2 h3 a' w' F' G' k1 k2 k3 k4
            subst h2 h3
            obtain ⟨v, q1, q2⟩ := run_res k1 k3 hres h1
            exact ⟨k4, v, q1, hR v w' F' G' k1 k2 q2⟩
          unfold finish at he
          split at he
          · rename_i fr' S1 hex
            cases hl : resL fr' S1 f.res with
            | none => simp [hl] at he
            | some l =>
              simp only [hl, Option.map_some, Option.some.injEq, Prod.mk.injEq] at he
              exact ok_code hfol ih hen n f.body code hbody hex hs hfr fun a' w' F' G' k1 k2 k3 k4 => fin fr' S1 l hl he.1.symm he.2.symm a' w' F' G' k1 k2 k3 k4
          · rename_i fr' S1 hex
            cases hl : resL fr' S1 f.res with
            | none => simp [hl] at he
            | some l =>
              simp only [hl, Option.map_some, Option.some.injEq, Prod.mk.injEq] at he
              exact ok_code hfol ih hen n f.body code hbody hex hs hfr fun a' w' F' G' k1 k2 k3 k4 => fin fr' S1 l hl he.1.symm he.2.symm a' w' F' G' k1 k2 k3 k4
          · cases he
        · cases hbody
      · cases hm
    · cases he

/-- What the evaluator says of a call, the program does. -/
theorem call_sound (hfol : P.follows .mixedOrders = true) (hgood : Good P dp) : CallOk P dp (call dp) := by
  intro g f args S r S' hg he
  obtain ⟨n, hn⟩ := (call_iff g args S (r, S')).1 he
  exact call_ok hfol hgood n g f args S r S' hg hn

end

end Go.Proofs.YtjlmeikcfdanmaaGreatDoor.DE
