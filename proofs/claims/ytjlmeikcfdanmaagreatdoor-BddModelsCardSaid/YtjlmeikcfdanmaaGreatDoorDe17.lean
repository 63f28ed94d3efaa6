/-
  CALLS; EVERY OPERATION OF A REGION.
-/
import Derived.Test.YtjlmeikcfdanmaaGreatDoorDe16
namespace Go.Proofs.YtjlmeikcfdanmaaGreatDoor.DE
open Go

section
variable {P : Program} {dp : Nat → Option Fn} {F F' : Fix} {G G' : List Gh} {w w' : World} {S S' : Store} {a : Act} {fr : List D} {o : Oper} {d : D} {cf : CallF}

/-- Values and what they say, one by one. -/
def RelA (dp : Nat → Option Fn) (F : Fix) (G : List Gh) (w : World) (vs : Array Value) (ds : List D) : Prop :=
  vs.size = ds.length ∧ ∀ (j : Nat) (v : Value) (d : D), vs[j]? = some v → ds[j]? = some d → Rel dp F G w v d

/-- What the calls of the evaluator say, the program's calls do. -/
def CallOk (P : Program) (dp : Nat → Option Fn) (cf : CallF) : Prop :=
  ∀ g f args S r S', dp g = some f → cf g args S = some (r, S') → ∀ F G w vs, Sim dp F G w S → RelA dp F G w vs args →
    ∀ R : Ending → World → Prop, (∀ v w' F' G', Sim dp F' G' w' S' → Ext F G w S F' G' w' S' → Rel dp F' G' w' v r → R (.returned v) w') → Calls P f.real vs w R

def Enter (P : Program) (dp : Nat → Option Fn) : Prop := ∀ g f, dp g = some f → ∃ fn, P.funcs[f.real]? = some fn ∧ (fn.name == "runtime.NumGoroutine") = false ∧ fn.body.isNone = false

theorem Sim.forget (hs : Sim dp F G w S) : Sim dp F [] w [] :=
  ⟨rfl, hs.fcell, fun _ _ _ h => (by cases h), fun _ _ _ _ _ _ _ h => (by cases h)⟩

theorem not_owns (b : Nat) : ¬ Owns [] [] b := by
  rintro ⟨_, _, _, h, _⟩
  cases h

/-- After a call with its own store the caller's store stands as it stood. -/
theorem Sim.recall {G0 : List Gh} {S0 : Store} (hs : Sim dp F G w S) (h : Sim dp F' G0 w' S0) (e : Ext F [] w [] F' G0 w' S0) : Sim dp F' G w' S ∧ Ext F G w S F' G w' S := by
  refine hs.step (fun b => w.heap.size ≤ b) hs.len (fun _ _ h => h) e.fsub e.cells (fun b o hF => ?_) (fun b hb _ => e.frame b hb (not_owns b)) (fun b hb => .inr hb) (fun id en g h1 h2 => ?_) e.size e.os e.tape e.output
  · rcases e.fnew b o hF with h1 | h1 | h1
    · exact .inl h1
    · exact (not_owns b h1).elim
    · exact .inr ⟨h1, h.fcell b o hF⟩
  · by_cases hh : holds en
    · have := hs.lt h1 h2 hh
      exact .inr (.inl ⟨h1, h2, by omega⟩)
    · exact .inl hh

theorem callR_ok (hc : CallOk P dp cf) {g : Nat} {f : Fn} {iso : Bool} {args : List D} {r : D} (hg : dp g = some f) (he : callR cf g iso args S = some (r, S')) {vs : Array Value} (hs : Sim dp F G w S)
    (hv : RelA dp F G w vs args) (R : Ending → World → Prop) (hR : ∀ v w' F' G', Sim dp F' G' w' S' → Ext F G w S F' G' w' S' → Rel dp F' G' w' v r → R (.returned v) w') : Calls P f.real vs w R := by
  unfold callR at he
  cases iso with
  | false => exact hc g f args S r S' hg (by simpa using he) F G w vs hs hv R hR
  | true =>
    simp only [if_true] at he
    cases hi : isoCall cf g args with
    | none => simp [hi] at he
    | some q =>
      simp only [hi, Option.map_some, Option.some.injEq, Prod.mk.injEq] at he
      obtain ⟨rfl, rfl⟩ := he
      unfold isoCall at hi
      split at hi
      · rename_i hn
        split at hi
        · rename_i r0 S0 hcall
          split at hi
          · rename_i hr
            injection hi with hi
            subst hi
            refine hc g f _ [] r0 S0 hg hcall F [] w vs hs.forget ⟨by rw [stripL_length]; exact hv.1, fun j v d h1 h2 => ?_⟩ R fun v w' F' G' h1 h2 h3 => ?_
            · have hno := noRefL_get hn h2
              obtain ⟨e, he, rfl⟩ := stripL_get h2
              exact (hv.2 j v e h1 he).strip.plain hno []
            · obtain ⟨h4, h5⟩ := hs.recall h1 h2
              exact hR v w' F' G h4 h5 (h3.stripT.plain hr G)
          · cases hi
        · cases hi
      · cases hi

theorem Fr.argsA {a : Act} {fr : List D} (h : Fr dp F G w a fr) {xs : Array Operand} {ys : List A} (hm : mAs dp xs.toList ys = true) : RelA dp F G w (xs.map a.eval) (avs fr ys) := by
  obtain ⟨h1, h2, h3⟩ := h.evals hm
  refine ⟨by rw [Array.size_map, h2, ← h1]; simp, fun j v d hv hd => h3 j v d ?_ hd⟩
  simpa using hv

theorem run_enter (hen : Enter P dp) {g : Nat} {f : Fn} (hg : dp g = some f) (args : Array Value) : (callFunc f.real args).run P w = .ok (.enter f.real args) w := by
  obtain ⟨fn, h1, h2, h3⟩ := hen g f hg
  have h2' : fn.name ≠ "runtime.NumGoroutine" := by simpa using h2
  cases hb : fn.body with
  | none => simp [hb] at h3
  | some c => simp [callFunc, h1, h2', hb]

theorem ok_call {g : Nat} {iso : Bool} {ys : List A} (hc : CallOk P dp cf) (hen : Enter P dp) (hm : mR P dp o.op (.call g iso ys) = true) (hs : Sim dp F G w S) (hf : Fr dp F G w a fr)
    (he : callR cf g iso (avs fr ys) S = some (d, S')) : OpOk P dp F G w S a o d S' := by
  simp only [mR] at hm
  split at hm
  · rename_i c ho
    simp only [Bool.and_eq_true] at hm
    obtain ⟨h1, h2⟩ := hm
    split at h1
    · rename_i f hcal
      unfold mF at h1
      split at h1
      · rename_i x hx
        simp only [beq_iff_eq] at h1
        subst h1
        intro next Q hn
        have hrun : (execOp a.eval o).run P w = .ok (.enter x.real (c.args.map a.eval)) w := by
          simp only [execOp, ho, resolve, hcal, Act.eval, Deferred.ofValue, Sem.run_bind, Sem.run_pure, Result.andThen, invoke, Array.append_empty, Array.empty_append, run_enter hen hx]
        simp only [Oper.wp, hrun, Oper.upon]
        exact callR_ok hc hx he hs (hf.argsA h2) _ fun v w' F' G' k1 k2 k3 => hn v w' F' G' k1 k2 k3
      · cases h1
    · cases h1
  · cases hm

theorem RelA.append {vs us : Array Value} {xs ys : List D} (h1 : RelA dp F G w vs xs) (h2 : RelA dp F G w us ys) : RelA dp F G w (vs ++ us) (xs ++ ys) := by
  refine ⟨by simp [h1.1, h2.1], fun j v d hv hd => ?_⟩
  by_cases hj : j < xs.length
  · rw [List.getElem?_append_left hj] at hd
    rw [Array.getElem?_append_left (by rw [h1.1]; exact hj)] at hv
    exact h1.2 j v d hv hd
  · rw [List.getElem?_append_right (by omega)] at hd
    rw [Array.getElem?_append_right (by rw [h1.1]; omega), h1.1] at hv
    exact h2.2 _ v d hv hd

theorem ok_calld {x : A} {g : Nat} {cs : List D} {iso : Bool} {ys : List A} (hc : CallOk P dp cf) (hen : Enter P dp) (hm : mR P dp o.op (.calld x iso ys) = true) (hs : Sim dp F G w S) (hf : Fr dp F G w a fr)
    (hx : av fr x = .fn g cs) (he : callR cf g iso (avs fr ys ++ cs) S = some (d, S')) : OpOk P dp F G w S a o d S' := by
  simp only [mR] at hm
  split at hm
  · rename_i c ho
    simp only [Bool.and_eq_true] at hm
    obtain ⟨h1, h2⟩ := hm
    split at h1
    · rename_i xo hcal
      have r1 := hf.eval h1
      rw [hx] at r1
      generalize hv1 : a.eval xo = v1 at r1
      cases r1 with
      | fn _ f hg vs _ hl h =>
        intro next Q hn
        have hrun : (execOp a.eval o).run P w = .ok (.enter f.real (c.args.map a.eval ++ vs)) w := by
          simp only [execOp, ho, resolve, hcal, hv1, Deferred.ofValue, Sem.run_bind, Sem.run_pure, Result.andThen, invoke, Array.empty_append, run_enter hen hg]
        simp only [Oper.wp, hrun, Oper.upon]
        exact callR_ok hc hg he hs ((hf.argsA h2).append ⟨hl, h⟩) _ fun v w' F' G' k1 k2 k3 => hn v w' F' G' k1 k2 k3
    · cases h1
  · cases hm

theorem map_pair {α β : Type} {x : Option α} {f : α → β × Store} {r : β × Store} (h : x.map f = some r) : ∃ y, x = some y ∧ f y = r := by
  cases x with
  | none => cases h
  | some y => exact ⟨y, rfl, by simpa using h⟩

theorem ok_R (hc : CallOk P dp cf) (hen : Enter P dp) {r : R} (hm : mR P dp o.op r = true) (hs : Sim dp F G w S) (hf : Fr dp F G w a fr) (he : evR cf fr S r = some (d, S')) : OpOk P dp F G w S a o d S' := by
  cases r with
  | mv x =>
    simp only [evR, Option.some.injEq, Prod.mk.injEq] at he
    obtain ⟨rfl, rfl⟩ := he
    exact (pur_mv hm hf).ok hs
  | nilck x =>
    simp only [evR] at he
    split at he
    · rename_i i p heq
      simp only [Option.some.injEq, Prod.mk.injEq] at he
      obtain ⟨rfl, rfl⟩ := he
      have := pur_nilck hm hf (by rw [heq])
      rw [heq] at this
      exact this.ok hs
    · rename_i i p heq
      simp only [Option.some.injEq, Prod.mk.injEq] at he
      obtain ⟨rfl, rfl⟩ := he
      have := pur_nilck hm hf (by rw [heq])
      rw [heq] at this
      exact this.ok hs
    · rename_i i p heq
      simp only [Option.some.injEq, Prod.mk.injEq] at he
      obtain ⟨rfl, rfl⟩ := he
      have := pur_nilck hm hf (by rw [heq])
      rw [heq] at this
      exact this.ok hs
    · cases he
  | pick c x y =>
    simp only [evR] at he
    split at he
    · rename_i t heq
      simp only [Option.some.injEq, Prod.mk.injEq] at he
      obtain ⟨rfl, rfl⟩ := he
      exact (pur_pick hm hf heq).ok hs
    · cases he
  | alloc z =>
    simp only [evR, Option.some.injEq, Prod.mk.injEq] at he
    obtain ⟨rfl, rfl⟩ := he
    exact ok_alloc hm hs
  | box k g x =>
    obtain ⟨cs, h1, h2⟩ := map_pair he
    simp only [Prod.mk.injEq] at h2
    obtain ⟨rfl, rfl⟩ := h2
    exact ok_box hm hs hf h1
  | bld z ps =>
    obtain ⟨cs, h1, h2⟩ := map_pair he
    simp only [Prod.mk.injEq] at h2
    obtain ⟨rfl, rfl⟩ := h2
    exact (pur_bld hm hf h1).ok hs
  | bsl k g own xs =>
    obtain ⟨l, h1, h2⟩ := map_pair he
    have := ok_bsl hm hs hf h1
    unfold bslRes at this
    rw [h2] at this
    exact this
  | ld k g x =>
    obtain ⟨l, h1, h2⟩ := map_pair he
    simp only [Prod.mk.injEq] at h2
    obtain ⟨rfl, rfl⟩ := h2
    exact (pur_ld hm hs hf h1).ok hs
  | st k g x v =>
    obtain ⟨l, h1, h2⟩ := map_pair he
    simp only [Prod.mk.injEq] at h2
    obtain ⟨rfl, rfl⟩ := h2
    unfold stD at h1
    split at h1
    · rename_i id p heq
      split at h1
      · rename_i cs hsg
        split at h1
        · rename_i ds hds
          split at h1
          · rename_i hle
            injection h1 with h1
            subst h1
            exact ok_st hm hs hf heq hsg hds hle
          · cases h1
        · cases h1
      · cases h1
    · cases h1
  | bin op q x y =>
    obtain ⟨l, h1, h2⟩ := map_pair he
    simp only [Prod.mk.injEq] at h2
    obtain ⟨rfl, rfl⟩ := h2
    exact (pur_bin hm hf h1).ok hs
  | un op x =>
    obtain ⟨l, h1, h2⟩ := map_pair he
    simp only [Prod.mk.injEq] at h2
    obtain ⟨rfl, rfl⟩ := h2
    exact (pur_un hm hf h1).ok hs
  | conv k x =>
    simp only [evR] at he
    split at he
    · rename_i k' n heq
      simp only [Option.some.injEq, Prod.mk.injEq] at he
      obtain ⟨rfl, rfl⟩ := he
      exact (pur_conv hm hf heq).ok hs
    · cases he
  | mkfn g cs =>
    simp only [evR, Option.some.injEq, Prod.mk.injEq] at he
    obtain ⟨rfl, rfl⟩ := he
    exact (pur_mkfn hm hf).ok hs
  | mkmap =>
    simp only [evR, Option.some.injEq, Prod.mk.injEq] at he
    obtain ⟨rfl, rfl⟩ := he
    exact ok_mkmap hm hs
  | mksl k arr z n =>
    simp only [evR] at he
    split at he
    · rename_i k' m heq
      split at he
      · rename_i hcond
        have := ok_mksl hm hs hf heq hcond.1 hcond.2
        have e : mkslRes k arr z m.toNat S = (d, S') := by
          apply Option.some.inj
          rw [← he]
          unfold mkslRes
          by_cases h0 : m.toNat = 0
          · have : m = 0 := by omega
            subst this
            cases arr <;> simp
          · have hm0 : ¬ m = 0 := by omega
            cases arr <;> simp [h0, hm0]
        rw [e] at this
        exact this
      · cases he
    · cases he
  | slc k x lo hi =>
    obtain ⟨l, h1, h2⟩ := map_pair he
    simp only [Prod.mk.injEq] at h2
    obtain ⟨rfl, rfl⟩ := h2
    exact (pur_slc hm hf h1).ok hs
  | slcs x lo hi =>
    obtain ⟨l, h1, h2⟩ := map_pair he
    simp only [Prod.mk.injEq] at h2
    obtain ⟨rfl, rfl⟩ := h2
    exact (pur_slcs hm hf h1).ok hs
  | fa off x =>
    simp only [evR] at he
    split at he
    · rename_i id p heq
      simp only [Option.some.injEq, Prod.mk.injEq] at he
      obtain ⟨rfl, rfl⟩ := he
      exact (pur_fa hm hf (by rw [heq])).ok hs
    · rename_i cs p heq
      simp only [Option.some.injEq, Prod.mk.injEq] at he
      obtain ⟨rfl, rfl⟩ := he
      exact (pur_fa hm hf (by rw [heq])).ok hs
    · cases he
  | fld off k g x =>
    simp only [evR] at he
    split at he
    · rename_i cs heq
      obtain ⟨l, h1, h2⟩ := map_pair he
      simp only [Prod.mk.injEq] at h2
      obtain ⟨rfl, rfl⟩ := h2
      exact (pur_fld hm hf heq h1).ok hs
    · cases he
  | ia k x i =>
    obtain ⟨l, h1, h2⟩ := map_pair he
    simp only [Prod.mk.injEq] at h2
    obtain ⟨rfl, rfl⟩ := h2
    exact (pur_ia hm hf h1).ok hs
  | iaa n k x i =>
    simp only [evR] at he
    split at he
    · rename_i id p k' m h1 h2
      split at he
      · rename_i hcond
        simp only [Option.some.injEq, Prod.mk.injEq] at he
        obtain ⟨rfl, rfl⟩ := he
        exact (pur_iaa hm hf h1 h2 hcond.1 hcond.2).ok hs
      · cases he
    · cases he
  | ixs x i =>
    simp only [evR] at he
    split at he
    · rename_i l k' m h1 h2
      split at he
      · rename_i hcond
        obtain ⟨c, h3, h4⟩ := map_pair he
        simp only [Prod.mk.injEq] at h4
        obtain ⟨rfl, rfl⟩ := h4
        exact (pur_ixs hm hf h1 h2 hcond h3).ok hs
      · cases he
    · cases he
  | lk kk ok z m key =>
    simp only [evR] at he
    split at he
    · rename_i hk
      split at he
      · rename_i heq
        simp only [Option.some.injEq, Prod.mk.injEq] at he
        obtain ⟨rfl, rfl⟩ := he
        exact (pur_lk (r := none) hm hs hf hk (by rw [heq]; rfl)).ok hs
      · rename_i id heq
        split at he
        · rename_i es hsg
          split at he
          · rename_i v hv
            simp only [Option.some.injEq, Prod.mk.injEq] at he
            obtain ⟨rfl, rfl⟩ := he
            exact (pur_lk (r := some v) hm hs hf hk (by rw [heq]; simp only [lkIn, hsg, hv])).ok hs
          · rename_i hv
            simp only [Option.some.injEq, Prod.mk.injEq] at he
            obtain ⟨rfl, rfl⟩ := he
            exact (pur_lk (r := none) hm hs hf hk (by rw [heq]; simp only [lkIn, hsg, hv])).ok hs
          · cases he
        · cases he
      · cases he
    · cases he
  | mu kk m key v =>
    simp only [evR] at he
    split at he
    · rename_i hk
      split at he
      · rename_i id heq
        split at he
        · rename_i es hsg
          obtain ⟨es', h1, h2⟩ := map_pair he
          simp only [Prod.mk.injEq] at h2
          obtain ⟨rfl, rfl⟩ := h2
          exact ok_mu hm hs hf hk heq hsg h1
        · cases he
      · cases he
    · cases he
  | ment kk z m key =>
    simp only [evR] at he
    split at he
    · rename_i hk
      split at he
      · rename_i id heq
        split at he
        · rename_i es hsg
          split at he
          · rename_i j hp
            refine ok_ment (r := (d, S')) hm hs hf hk heq hsg hp ?_
            simp only [mentRes]
            exact he
          · rename_i hp
            refine ok_ment (r := (d, S')) hm hs hf hk heq hsg hp ?_
            simp only [mentRes]
            exact he
          · cases he
        · cases he
      · cases he
    · cases he
  | est m j v =>
    simp only [evR] at he
    split at he
    · rename_i id k' n h1 h2
      split at he
      · rename_i es hsg
        split at he
        · rename_i hcond
          simp only [Option.some.injEq, Prod.mk.injEq] at he
          obtain ⟨rfl, rfl⟩ := he
          exact ok_est hm hs hf h1 h2 hsg hcond.1 hcond.2
        · cases he
      · cases he
    · cases he
  | ext x j =>
    simp only [evR] at he
    split at he
    · rename_i cs heq
      obtain ⟨l, h1, h2⟩ := map_pair he
      simp only [Prod.mk.injEq] at h2
      obtain ⟨rfl, rfl⟩ := h2
      exact (pur_ext hm hf heq h1).ok hs
    · cases he
  | len str x =>
    simp only [evR] at he
    split at he
    · rename_i k' nl xs ow heq
      simp only [Option.some.injEq, Prod.mk.injEq] at he
      obtain ⟨rfl, rfl⟩ := he
      exact (pur_len hm hf (by rw [heq])).ok hs
    · rename_i k' id p n heq
      simp only [Option.some.injEq, Prod.mk.injEq] at he
      obtain ⟨rfl, rfl⟩ := he
      exact (pur_len hm hf (by rw [heq])).ok hs
    · rename_i l heq
      simp only [Option.some.injEq, Prod.mk.injEq] at he
      obtain ⟨rfl, rfl⟩ := he
      exact (pur_len hm hf (by rw [heq])).ok hs
    · cases he
  | app k arr x y => exact ok_app (r := (d, S')) hm hs hf he
  | mx x y =>
    simp only [evR] at he
    split at he
    · rename_i k p k' q h1 h2
      split at he
      · rename_i hk
        subst hk
        simp only [Option.some.injEq, Prod.mk.injEq] at he
        obtain ⟨rfl, rfl⟩ := he
        exact (pur_mx hm hf h1 h2).ok hs
      · cases he
    · cases he
  | mn x y =>
    simp only [evR] at he
    split at he
    · rename_i k p k' q h1 h2
      split at he
      · rename_i hk
        subst hk
        simp only [Option.some.injEq, Prod.mk.injEq] at he
        obtain ⟨rfl, rfl⟩ := he
        exact (pur_mn hm hf h1 h2).ok hs
      · cases he
    · cases he
  | clr k z x =>
    simp only [evR] at he
    split at he
    · rename_i k' id p n heq
      split at he
      · rename_i hcond
        obtain ⟨rfl, hz⟩ := hcond
        split at he
        · rename_i cs hsg
          split at he
          · rename_i hle
            simp only [Option.some.injEq, Prod.mk.injEq] at he
            obtain ⟨rfl, rfl⟩ := he
            exact ok_clr hm hs hf (.inl ⟨id, p, n, cs, heq, hz, hsg, hle, rfl⟩)
          · cases he
        · cases he
      · cases he
    · rename_i k' nl ow heq
      simp only [Option.some.injEq, Prod.mk.injEq] at he
      obtain ⟨rfl, rfl⟩ := he
      exact ok_clr hm hs hf (.inr ⟨k', nl, ow, heq, rfl⟩)
    · cases he
  | call g iso args => exact ok_call hc hen hm hs hf he
  | calld f iso args =>
    simp only [evR] at he
    split at he
    · rename_i g cs heq
      exact ok_calld hc hen hm hs hf heq he
    · cases he
  | cmps x y =>
    simp only [evR] at he
    split at he
    · rename_i l m h1 h2
      simp only [Option.some.injEq, Prod.mk.injEq] at he
      obtain ⟨rfl, rfl⟩ := he
      exact (ok_cmps hm hf h1 h2).ok hs
    · cases he

end

end Go.Proofs.YtjlmeikcfdanmaaGreatDoor.DE
