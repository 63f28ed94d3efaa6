/-
  SEVERAL TEXTS IN ONE (joined by tools/assemble.py of this repository): De17, De18, De19, De20, De21, Dc0.
-/
import Derived.Test.YtjlmeikcfdanmaaGreatDoorQc1
import Derived.Orders
import Derived.Tactics
set_option linter.unusedVariables false
set_option linter.unusedSimpArgs false
namespace Go.Proofs.YtjlmeikcfdanmaaGreatDoor.DE
open Go

section
variable {P : Program} {dp : Nat → Option Fn} {F F' : Fix} {G G' : List Gh} {w w' : World} {S S' : Store} {a : Act} {fr : List D} {o : Oper} {d : D} {cf : CallF}

/-- Values and what they say, one by one. -/
def RelA (dp : Nat → Option Fn) (F : Fix) (G : List Gh) (w : World) (vs : Array Value) (ds : List D) : Prop :=
  vs.size = ds.length ∧ ∀ (j : Nat) (v : Value) (d : D), vs[j]? = some v → ds[j]? = some d → Rel dp F G w v d

/-- What the calls of the evaluator say, the program's calls do. -/
def CallOk (P : Program) (dp : Nat → Option Fn) (cf : CallF) : Prop :=
  ∀ g f args S r S', dp g = some f → cf g args S = some (r, S') → ∀ F G w vs, Sim dp F G w S → RelA dp F G w vs args →
    ∀ R : Ending → World → Prop, (∀ v w' F' G', Sim dp F' G' w' S' → Ext F G w S F' G' w' S' → Rel dp F' G' w' v r → R (.returned v) w') → Calls P f.real vs w R

def Enter (P : Program) (dp : Nat → Option Fn) : Prop := ∀ g f, dp g = some f → ∃ fn, P.funcs[f.real]? = some fn ∧ (fn.name == "runtime.NumGoroutine") = false ∧ fn.body.isNone = false

theorem Sim.forget (hs : Sim dp F G w S) : Sim dp F [] w [] :=
  ⟨rfl, hs.fcell, fun _ _ _ h => (by cases h), fun _ _ _ _ _ _ _ h => (by cases h)⟩

theorem not_owns (b : Nat) : ¬ Owns [] [] b := by
  rintro ⟨_, _, _, h, _⟩
  cases h

/-- After a call with its own store the caller's store stands as it stood. -/
theorem Sim.recall {G0 : List Gh} {S0 : Store} (hs : Sim dp F G w S) (h : Sim dp F' G0 w' S0) (e : Ext F [] w [] F' G0 w' S0) : Sim dp F' G w' S ∧ Ext F G w S F' G w' S := by
  refine hs.step (fun b => w.heap.size ≤ b) hs.len (fun _ _ h => h) e.fsub e.cells (fun b o hF => ?_) (fun b hb _ => e.frame b hb (not_owns b)) (fun b hb => .inr hb) (fun id en g h1 h2 => ?_) e.size e.os e.tape e.output
  · rcases e.fnew b o hF with h1 | h1 | h1
    · exact .inl h1
    · exact (not_owns b h1).elim
    · exact .inr ⟨h1, h.fcell b o hF⟩
  · by_cases hh : holds en
    · have := hs.lt h1 h2 hh
      exact .inr (.inl ⟨h1, h2, by omega⟩)
    · exact .inl hh

theorem callR_ok (hc : CallOk P dp cf) {g : Nat} {f : Fn} {iso : Bool} {args : List D} {r : D} (hg : dp g = some f) (he : callR cf g iso args S = some (r, S')) {vs : Array Value} (hs : Sim dp F G w S)
    (hv : RelA dp F G w vs args) (R : Ending → World → Prop) (hR : ∀ v w' F' G', Sim dp F' G' w' S' → Ext F G w S F' G' w' S' → Rel dp F' G' w' v r → R (.returned v) w') : Calls P f.real vs w R := by
  unfold callR at he
  cases iso with
  | false => exact hc g f args S r S' hg (by simpa using he) F G w vs hs hv R hR
  | true =>
    simp only [if_true] at he
    cases hi : isoCall cf g args with
    | none => simp [hi] at he
    | some q =>
      simp only [hi, Option.map_some, Option.some.injEq, Prod.mk.injEq] at he
      obtain ⟨rfl, rfl⟩ := he
      unfold isoCall at hi
      split at hi
      · rename_i hn
        split at hi
        · rename_i r0 S0 hcall
          split at hi
          · rename_i hr
            injection hi with hi
            subst hi
            refine hc g f _ [] r0 S0 hg hcall F [] w vs hs.forget ⟨by rw [stripL_length]; exact hv.1, fun j v d h1 h2 => ?_⟩ R fun v w' F' G' h1 h2 h3 => ?_
            · have hno := noRefL_get hn h2
              obtain ⟨e, he, rfl⟩ := stripL_get h2
              exact (hv.2 j v e h1 he).strip.plain hno []
            · obtain ⟨h4, h5⟩ := hs.recall h1 h2
              exact hR v w' F' G h4 h5 (h3.stripT.plain hr G)
          · cases hi
        · cases hi
      · cases hi

theorem Fr.argsA {a : Act} {fr : List D} (h : Fr dp F G w a fr) {xs : Array Operand} {ys : List A} (hm : mAs dp xs.toList ys = true) : RelA dp F G w (xs.map a.eval) (avs fr ys) := by
  obtain ⟨h1, h2, h3⟩ := h.evals hm
  refine ⟨by rw [Array.size_map, h2, ← h1]; simp, fun j v d hv hd => h3 j v d ?_ hd⟩
  simpa using hv

theorem run_enter (hen : Enter P dp) {g : Nat} {f : Fn} (hg : dp g = some f) (args : Array Value) : (callFunc f.real args).run P w = .ok (.enter f.real args) w := by
  obtain ⟨fn, h1, h2, h3⟩ := hen g f hg
  have h2' : fn.name ≠ "runtime.NumGoroutine" := by simpa using h2
  cases hb : fn.body with
  | none => simp [hb] at h3
  | some c => simp [callFunc, h1, h2', hb]

theorem ok_call {g : Nat} {iso : Bool} {ys : List A} (hc : CallOk P dp cf) (hen : Enter P dp) (hm : mR P dp o.op (.call g iso ys) = true) (hs : Sim dp F G w S) (hf : Fr dp F G w a fr)
    (he : callR cf g iso (avs fr ys) S = some (d, S')) : OpOk P dp F G w S a o d S' := by
  simp only [mR] at hm
  split at hm
  · rename_i c ho
    simp only [Bool.and_eq_true] at hm
    obtain ⟨h1, h2⟩ := hm
    split at h1
    · rename_i f hcal
      unfold mF at h1
      split at h1
      · rename_i x hx
        simp only [beq_iff_eq] at h1
        subst h1
        intro next Q hn
        have hrun : (execOp a.eval o).run P w = .ok (.enter x.real (c.args.map a.eval)) w := by
          simp only [execOp, ho, resolve, hcal, Act.eval, Deferred.ofValue, Sem.run_bind, Sem.run_pure, Result.andThen, invoke, Array.append_empty, Array.empty_append, run_enter hen hx]
        simp only [Oper.wp, hrun, Oper.upon]
        exact callR_ok hc hx he hs (hf.argsA h2) _ fun v w' F' G' k1 k2 k3 => hn v w' F' G' k1 k2 k3
      · cases h1
    · cases h1
  · cases hm

theorem RelA.append {vs us : Array Value} {xs ys : List D} (h1 : RelA dp F G w vs xs) (h2 : RelA dp F G w us ys) : RelA dp F G w (vs ++ us) (xs ++ ys) := by
  refine ⟨by simp [h1.1, h2.1], fun j v d hv hd => ?_⟩
  by_cases hj : j < xs.length
  · rw [List.getElem?_append_left hj] at hd
    rw [Array.getElem?_append_left (by rw [h1.1]; exact hj)] at hv
    exact h1.2 j v d hv hd
  · rw [List.getElem?_append_right (by omega)] at hd
    rw [Array.getElem?_append_right (by rw [h1.1]; omega), h1.1] at hv
    exact h2.2 _ v d hv hd

theorem ok_calld {x : A} {g : Nat} {cs : List D} {iso : Bool} {ys : List A} (hc : CallOk P dp cf) (hen : Enter P dp) (hm : mR P dp o.op (.calld x iso ys) = true) (hs : Sim dp F G w S) (hf : Fr dp F G w a fr)
    (hx : av fr x = .fn g cs) (he : callR cf g iso (avs fr ys ++ cs) S = some (d, S')) : OpOk P dp F G w S a o d S' := by
  simp only [mR] at hm
  split at hm
  · rename_i c ho
    simp only [Bool.and_eq_true] at hm
    obtain ⟨h1, h2⟩ := hm
    split at h1
    · rename_i xo hcal
      have r1 := hf.eval h1
      rw [hx] at r1
      generalize hv1 : a.eval xo = v1 at r1
      cases r1 with
      | fn _ f hg vs _ hl h =>
        intro next Q hn
        have hrun : (execOp a.eval o).run P w = .ok (.enter f.real (c.args.map a.eval ++ vs)) w := by
          simp only [execOp, ho, resolve, hcal, hv1, Deferred.ofValue, Sem.run_bind, Sem.run_pure, Result.andThen, invoke, Array.empty_append, run_enter hen hg]
        simp only [Oper.wp, hrun, Oper.upon]
        exact callR_ok hc hg he hs ((hf.argsA h2).append ⟨hl, h⟩) _ fun v w' F' G' k1 k2 k3 => hn v w' F' G' k1 k2 k3
    · cases h1
  · cases hm

theorem map_pair {α β : Type} {x : Option α} {f : α → β × Store} {r : β × Store} (h : x.map f = some r) : ∃ y, x = some y ∧ f y = r := by
  cases x with
  | none => cases h
  | some y => exact ⟨y, rfl, by simpa using h⟩

theorem ok_R (hc : CallOk P dp cf) (hen : Enter P dp) {r : R} (hm : mR P dp o.op r = true) (hs : Sim dp F G w S) (hf : Fr dp F G w a fr) (he : evR cf fr S r = some (d, S')) : OpOk P dp F G w S a o d S' := by
  cases r with
  | mv x =>
    simp only [evR, Option.some.injEq, Prod.mk.injEq] at he
    obtain ⟨rfl, rfl⟩ := he
    exact (pur_mv hm hf).ok hs
  | nilck x =>
    simp only [evR] at he
    split at he
    · rename_i i p heq
      simp only [Option.some.injEq, Prod.mk.injEq] at he
      obtain ⟨rfl, rfl⟩ := he
      have := pur_nilck hm hf (by rw [heq])
      rw [heq] at this
      exact this.ok hs
    · rename_i i p heq
      simp only [Option.some.injEq, Prod.mk.injEq] at he
      obtain ⟨rfl, rfl⟩ := he
      have := pur_nilck hm hf (by rw [heq])
      rw [heq] at this
      exact this.ok hs
    · rename_i i p heq
      simp only [Option.some.injEq, Prod.mk.injEq] at he
      obtain ⟨rfl, rfl⟩ := he
      have := pur_nilck hm hf (by rw [heq])
      rw [heq] at this
      exact this.ok hs
    · cases he
  | pick c x y =>
    simp only [evR] at he
    split at he
    · rename_i t heq
      simp only [Option.some.injEq, Prod.mk.injEq] at he
      obtain ⟨rfl, rfl⟩ := he
      exact (pur_pick hm hf heq).ok hs
    · cases he
  | alloc z =>
    simp only [evR, Option.some.injEq, Prod.mk.injEq] at he
    obtain ⟨rfl, rfl⟩ := he
    exact ok_alloc hm hs
  | box k g x =>
    obtain ⟨cs, h1, h2⟩ := map_pair he
    simp only [Prod.mk.injEq] at h2
    obtain ⟨rfl, rfl⟩ := h2
    exact ok_box hm hs hf h1
  | bld z ps =>
    obtain ⟨cs, h1, h2⟩ := map_pair he
    simp only [Prod.mk.injEq] at h2
    obtain ⟨rfl, rfl⟩ := h2
    exact (pur_bld hm hf h1).ok hs
  | bsl k g own xs =>
    obtain ⟨l, h1, h2⟩ := map_pair he
    have := ok_bsl hm hs hf h1
    unfold bslRes at this
    rw [h2] at this
    exact this
  | ld k g x =>
    obtain ⟨l, h1, h2⟩ := map_pair he
    simp only [Prod.mk.injEq] at h2
    obtain ⟨rfl, rfl⟩ := h2
    exact (pur_ld hm hs hf h1).ok hs
  | st k g x v =>
    obtain ⟨l, h1, h2⟩ := map_pair he
    simp only [Prod.mk.injEq] at h2
    obtain ⟨rfl, rfl⟩ := h2
    unfold stD at h1
    split at h1
    · rename_i id p heq
      split at h1
      · rename_i cs hsg
        split at h1
        · rename_i ds hds
          split at h1
          · rename_i hle
            injection h1 with h1
            subst h1
            exact ok_st hm hs hf heq hsg hds hle
          · cases h1
        · cases h1
      · cases h1
    · cases h1
  | bin op q x y =>
    obtain ⟨l, h1, h2⟩ := map_pair he
    simp only [Prod.mk.injEq] at h2
    obtain ⟨rfl, rfl⟩ := h2
    exact (pur_bin hm hf h1).ok hs
  | un op x =>
    obtain ⟨l, h1, h2⟩ := map_pair he
    simp only [Prod.mk.injEq] at h2
    obtain ⟨rfl, rfl⟩ := h2
    exact (pur_un hm hf h1).ok hs
  | conv k x =>
    simp only [evR] at he
    split at he
    · rename_i k' n heq
      simp only [Option.some.injEq, Prod.mk.injEq] at he
      obtain ⟨rfl, rfl⟩ := he
      exact (pur_conv hm hf heq).ok hs
    · cases he
  | mkfn g cs =>
    simp only [evR, Option.some.injEq, Prod.mk.injEq] at he
    obtain ⟨rfl, rfl⟩ := he
    exact (pur_mkfn hm hf).ok hs
  | mkmap =>
    simp only [evR, Option.some.injEq, Prod.mk.injEq] at he
    obtain ⟨rfl, rfl⟩ := he
    exact ok_mkmap hm hs
  | mksl k arr z n =>
    simp only [evR] at he
    split at he
    · rename_i k' m heq
      split at he
      · rename_i hcond
        have := ok_mksl hm hs hf heq hcond.1 hcond.2
        have e : mkslRes k arr z m.toNat S = (d, S') := by
          apply Option.some.inj
          rw [← he]
          unfold mkslRes
          by_cases h0 : m.toNat = 0
          · have : m = 0 := by omega
            subst this
            cases arr <;> simp
          · have hm0 : ¬ m = 0 := by omega
            cases arr <;> simp [h0, hm0]
        rw [e] at this
        exact this
      · cases he
    · cases he
  | slc k x lo hi =>
    obtain ⟨l, h1, h2⟩ := map_pair he
    simp only [Prod.mk.injEq] at h2
    obtain ⟨rfl, rfl⟩ := h2
    exact (pur_slc hm hf h1).ok hs
  | slcs x lo hi =>
    obtain ⟨l, h1, h2⟩ := map_pair he
    simp only [Prod.mk.injEq] at h2
    obtain ⟨rfl, rfl⟩ := h2
    exact (pur_slcs hm hf h1).ok hs
  | fa off x =>
    simp only [evR] at he
    split at he
    · rename_i id p heq
      simp only [Option.some.injEq, Prod.mk.injEq] at he
      obtain ⟨rfl, rfl⟩ := he
      exact (pur_fa hm hf (by rw [heq])).ok hs
    · rename_i cs p heq
      simp only [Option.some.injEq, Prod.mk.injEq] at he
      obtain ⟨rfl, rfl⟩ := he
      exact (pur_fa hm hf (by rw [heq])).ok hs
    · cases he
  | fld off k g x =>
    simp only [evR] at he
    split at he
    · rename_i cs heq
      obtain ⟨l, h1, h2⟩ := map_pair he
      simp only [Prod.mk.injEq] at h2
      obtain ⟨rfl, rfl⟩ := h2
      exact (pur_fld hm hf heq h1).ok hs
    · cases he
  | ia k x i =>
    obtain ⟨l, h1, h2⟩ := map_pair he
    simp only [Prod.mk.injEq] at h2
    obtain ⟨rfl, rfl⟩ := h2
    exact (pur_ia hm hf h1).ok hs
  | iaa n k x i =>
    simp only [evR] at he
    split at he
    · rename_i id p k' m h1 h2
      split at he
      · rename_i hcond
        simp only [Option.some.injEq, Prod.mk.injEq] at he
        obtain ⟨rfl, rfl⟩ := he
        exact (pur_iaa hm hf h1 h2 hcond.1 hcond.2).ok hs
      · cases he
    · cases he
  | ixs x i =>
    simp only [evR] at he
    split at he
    · rename_i l k' m h1 h2
      split at he
      · rename_i hcond
        obtain ⟨c, h3, h4⟩ := map_pair he
        simp only [Prod.mk.injEq] at h4
        obtain ⟨rfl, rfl⟩ := h4
        exact (pur_ixs hm hf h1 h2 hcond h3).ok hs
      · cases he
    · cases he
  | lk kk ok z m key =>
    simp only [evR] at he
    split at he
    · rename_i hk
      split at he
      · rename_i heq
        simp only [Option.some.injEq, Prod.mk.injEq] at he
        obtain ⟨rfl, rfl⟩ := he
        exact (pur_lk (r := none) hm hs hf hk (by rw [heq]; rfl)).ok hs
      · rename_i id heq
        split at he
        · rename_i es hsg
          split at he
          · rename_i v hv
            simp only [Option.some.injEq, Prod.mk.injEq] at he
            obtain ⟨rfl, rfl⟩ := he
            exact (pur_lk (r := some v) hm hs hf hk (by rw [heq]; simp only [lkIn, hsg, hv])).ok hs
          · rename_i hv
            simp only [Option.some.injEq, Prod.mk.injEq] at he
            obtain ⟨rfl, rfl⟩ := he
            exact (pur_lk (r := none) hm hs hf hk (by rw [heq]; simp only [lkIn, hsg, hv])).ok hs
          · cases he
        · cases he
      · cases he
    · cases he
  | mu kk m key v =>
    simp only [evR] at he
    split at he
    · rename_i hk
      split at he
      · rename_i id heq
        split at he
        · rename_i es hsg
          obtain ⟨es', h1, h2⟩ := map_pair he
          simp only [Prod.mk.injEq] at h2
          obtain ⟨rfl, rfl⟩ := h2
          exact ok_mu hm hs hf hk heq hsg h1
        · cases he
      · cases he
    · cases he
  | ment kk z m key =>
    simp only [evR] at he
    split at he
    · rename_i hk
      split at he
      · rename_i id heq
        split at he
        · rename_i es hsg
          split at he
          · rename_i j hp
            refine ok_ment (r := (d, S')) hm hs hf hk heq hsg hp ?_
            simp only [mentRes]
            exact he
          · rename_i hp
            refine ok_ment (r := (d, S')) hm hs hf hk heq hsg hp ?_
            simp only [mentRes]
            exact he
          · cases he
        · cases he
      · cases he
    · cases he
  | est m j v =>
    simp only [evR] at he
    split at he
    · rename_i id k' n h1 h2
      split at he
      · rename_i es hsg
        split at he
        · rename_i hcond
          simp only [Option.some.injEq, Prod.mk.injEq] at he
          obtain ⟨rfl, rfl⟩ := he
          exact ok_est hm hs hf h1 h2 hsg hcond.1 hcond.2
        · cases he
      · cases he
    · cases he
  | ext x j =>
    simp only [evR] at he
    split at he
    · rename_i cs heq
      obtain ⟨l, h1, h2⟩ := map_pair he
      simp only [Prod.mk.injEq] at h2
      obtain ⟨rfl, rfl⟩ := h2
      exact (pur_ext hm hf heq h1).ok hs
    · cases he
  | len str x =>
    simp only [evR] at he
    split at he
    · rename_i k' nl xs ow heq
      simp only [Option.some.injEq, Prod.mk.injEq] at he
      obtain ⟨rfl, rfl⟩ := he
      exact (pur_len hm hf (by rw [heq])).ok hs
    · rename_i k' id p n heq
      simp only [Option.some.injEq, Prod.mk.injEq] at he
      obtain ⟨rfl, rfl⟩ := he
      exact (pur_len hm hf (by rw [heq])).ok hs
    · rename_i l heq
      simp only [Option.some.injEq, Prod.mk.injEq] at he
      obtain ⟨rfl, rfl⟩ := he
      exact (pur_len hm hf (by rw [heq])).ok hs
    · cases he
  | app k arr x y => exact ok_app (r := (d, S')) hm hs hf he
  | mx x y =>
    simp only [evR] at he
    split at he
    · rename_i k p k' q h1 h2
      split at he
      · rename_i hk
        subst hk
        simp only [Option.some.injEq, Prod.mk.injEq] at he
        obtain ⟨rfl, rfl⟩ := he
        exact (pur_mx hm hf h1 h2).ok hs
      · cases he
    · cases he
  | mn x y =>
    simp only [evR] at he
    split at he
    · rename_i k p k' q h1 h2
      split at he
      · rename_i hk
        subst hk
        simp only [Option.some.injEq, Prod.mk.injEq] at he
        obtain ⟨rfl, rfl⟩ := he
        exact (pur_mn hm hf h1 h2).ok hs
      · cases he
    · cases he
  | clr k z x =>
    simp only [evR] at he
    split at he
    · rename_i k' id p n heq
      split at he
      · rename_i hcond
        obtain ⟨rfl, hz⟩ := hcond
        split at he
        · rename_i cs hsg
          split at he
          · rename_i hle
            simp only [Option.some.injEq, Prod.mk.injEq] at he
            obtain ⟨rfl, rfl⟩ := he
            exact ok_clr hm hs hf (.inl ⟨id, p, n, cs, heq, hz, hsg, hle, rfl⟩)
          · cases he
        · cases he
      · cases he
    · rename_i k' nl ow heq
      simp only [Option.some.injEq, Prod.mk.injEq] at he
      obtain ⟨rfl, rfl⟩ := he
      exact ok_clr hm hs hf (.inr ⟨k', nl, ow, heq, rfl⟩)
    · cases he
  | call g iso args => exact ok_call hc hen hm hs hf he
  | calld f iso args =>
    simp only [evR] at he
    split at he
    · rename_i g cs heq
      exact ok_calld hc hen hm hs hf heq he
    · cases he
  | cmps x y =>
    simp only [evR] at he
    split at he
    · rename_i l m h1 h2
      simp only [Option.some.injEq, Prod.mk.injEq] at he
      obtain ⟨rfl, rfl⟩ := he
      exact (ok_cmps hm hf h1 h2).ok hs
    · cases he

end

end Go.Proofs.YtjlmeikcfdanmaaGreatDoor.DE

namespace Go.Proofs.YtjlmeikcfdanmaaGreatDoor.DE
open Go

/-! ## The check -/

def dstI : I → Option Nat
  | .op dst _ _ => dst
  | .fz t => some t
  | .ck _ _ => none

/-- An item read as an operation. -/
def asOp : I → Option (Option Nat × Option (Nat × Bool) × R)
  | .op dst gd r => some (dst, gd, r)
  | .ck t r => some (some t, none, r)
  | .fz _ => none

def isX : I → Bool
  | .op _ _ r => match kdR r with | .x => true | _ => false
  | _ => false

def kdX (r : R) : Bool := match kdR r with | .x => true | _ => false
def kdP (r : R) : Bool := match kdR r with | .p => true | _ => false

def nX : List (Nat × I) → Nat
  | [] => 0
  | (_, i) :: l => (if isX i then 1 else 0) + nX l

def xsOf : List (Nat × I) → List Nat
  | [] => []
  | (j, i) :: l => if isX i then j :: xsOf l else xsOf l

def ann : Nat → List (Nat × I) → List (Nat × Nat × I)
  | _, [] => []
  | n, (j, i) :: l => (n, j, i) :: ann ((if isX i then 1 else 0) + n) l

def noDst (u : Nat) (l : List (Nat × I)) : Bool := l.all fun q => dstI q.2 != some u

/-- No item writes what an earlier one has written, or has been asked about. -/
def uniq : List (Nat × I) → Bool
  | [] => true
  | (_, i) :: l => (match i with | .op (some t) _ _ => noDst t l | .ck t _ => noDst t l | _ => true) && uniq l

def bbit (B : List Nat) (q j : Nat) : Bool := (B.getD j 0).testBit q

def ndB : List Nat → Bool
  | [] => true
  | x :: l => l.all (fun y => y != x) && ndB l

def chainB (B : List Nat) : List Nat → Bool
  | x :: y :: l => bbit B x y && chainB B (y :: l)
  | _ => true

def usO : I → List Nat
  | .op _ gd r => usG gd ++ usR r
  | .fz _ => []
  | .ck _ r => usR r

/-- What the item looks at has been written by what stands before it, or will be written by what stands behind it. -/
def useOk (ops : List Oper) (B : List Nat) (pre : List (Nat × I)) (j : Nat) (i : I) (post : List (Nat × I)) : Bool :=
  (usO i).all fun u => (noDst u ((j, i) :: post) && ops.zipIdx.all fun q => q.1.dst != some u || bbit B q.2 j) || (noDst u pre && ops.zipIdx.all fun q => q.1.dst != some u || bbit B j q.2)

def usesOk (ops : List Oper) (B : List Nat) : List (Nat × I) → List (Nat × I) → Bool
  | _, [] => true
  | pre, (j, i) :: l => useOk ops B pre j i l && usesOk ops B (pre ++ [(j, i)]) l

def itemOk (P : Program) (dp : Nat → Option Fn) (ops : List Oper) (j : Nat) (i : I) : Bool := match ops[j]? with
  | some o => match asOp i with
    | some (dst, gd, r) => mI P dp ops o (.op dst gd r)
    | none => false
  | none => false

def ckOk : I → Bool
  | .ck _ r => !kdX r
  | _ => true

def covOk (B xs : List Nat) (A : List (Nat × Nat × I)) (j : Nat) : Bool :=
  A.any (fun q => q.2.1 == j && (match q.2.2 with | .op _ _ r => kdP r || kdX r | _ => false)) ||
  (List.range (xs.length + 1)).all fun k => xs.zipIdx.any (fun x => (bbit B x.1 j && !decide (x.2 < k)) || (bbit B j x.1 && !decide (k ≤ x.2))) ||
    A.any fun q => q.1 == k && q.2.1 == j && !isX q.2.2

def edgesOk (ops : List Oper) : Bool := ops.zipIdx.all fun q => q.1.after.toList.all fun e => !Region.binds .any e || decide (e.on < q.2)

def mDr (P : Program) (dp : Nat → Option Fn) (ops : List Oper) (is : List (Nat × I)) : Bool :=
  let B := befores ops []
  let A := ann 0 is
  let xs := xsOf is
  is.all (fun q => itemOk P dp ops q.1 q.2 && ckOk q.2) && uniq is && usesOk ops B [] is && edgesOk ops && ndB xs && chainB B xs && (List.range ops.length).all fun j => covOk B xs A j

/-! ## The evaluator: what an operation looks at -/

section
variable {cf : CallF} {fr fr' : List D} {S S' : Store}

theorem av_congr {x : A} (h : ∀ t ∈ usA x, fget fr t = fget fr' t) : av fr x = av fr' x := by
  cases x with
  | t n => exact h n (by simp [usA])
  | c d => rfl

theorem avo_congr {x : Option A} (h : ∀ t ∈ usAo x, fget fr t = fget fr' t) : avo fr x = avo fr' x := by
  cases x with
  | none => rfl
  | some x => simp only [avo, av_congr (x := x) h]

theorem avs_congr : ∀ {xs : List A}, (∀ t ∈ usAs xs, fget fr t = fget fr' t) → avs fr xs = avs fr' xs
  | [], _ => rfl
  | x :: xs, h => by
    simp only [usAs, List.mem_append] at h
    simp only [avs]
    rw [av_congr fun t ht => h t (.inl ht), avs_congr fun t ht => h t (.inr ht)]

theorem bldD_congr : ∀ {ps : List (Nat × Nat × Bool × A)} {z : List D}, (∀ t ∈ usPs ps, fget fr t = fget fr' t) → bldD fr z ps = bldD fr' z ps
  | [], _, _ => rfl
  | (o, k, g, x) :: ps, z, h => by
    simp only [usPs, List.mem_append] at h
    simp only [bldD]
    rw [av_congr fun t ht => h t (.inl ht)]
    split
    · split
      · exact bldD_congr fun t ht => h t (.inr ht)
      · rfl
    · rfl

theorem cellsAll_congr {k : Nat} {g : Bool} : ∀ {xs : List A}, (∀ t ∈ usAs xs, fget fr t = fget fr' t) → cellsAll fr k g xs = cellsAll fr' k g xs
  | [], _ => rfl
  | x :: xs, h => by
    simp only [usAs, List.mem_append] at h
    simp only [cellsAll]
    rw [av_congr fun t ht => h t (.inl ht), cellsAll_congr fun t ht => h t (.inr ht)]

theorem evR_congr {r : R} (h : ∀ t ∈ usR r, fget fr t = fget fr' t) : evR cf fr S r = evR cf fr' S r := by
  cases r <;> simp only [usR, List.mem_append] at h <;> simp only [evR]
  case mv x => rw [av_congr h]
  case nilck x => rw [av_congr h]
  case pick c a b => rw [av_congr fun t ht => h t (.inl ht), av_congr (x := a) fun t ht => h t (.inr (.inl ht)), av_congr (x := b) fun t ht => h t (.inr (.inr ht))]
  case box k g x => rw [av_congr h]
  case bld z ps => rw [bldD_congr h]
  case bsl k g own xs => rw [cellsAll_congr h]
  case ld k g x => rw [av_congr h]
  case st k g a v => rw [av_congr fun t ht => h t (.inl ht), av_congr (x := v) fun t ht => h t (.inr ht)]
  case bin op q x y => rw [av_congr fun t ht => h t (.inl ht), av_congr (x := y) fun t ht => h t (.inr ht)]
  case un op x => rw [av_congr h]
  case conv k x => rw [av_congr h]
  case mkfn g cs => rw [avs_congr h]
  case mksl k arr z n => rw [av_congr h]
  case slc k x lo hi => rw [av_congr fun t ht => h t (.inl ht), avo_congr (x := lo) fun t ht => h t (.inr (.inl ht)), avo_congr (x := hi) fun t ht => h t (.inr (.inr ht))]
  case slcs x lo hi => rw [av_congr fun t ht => h t (.inl ht), avo_congr (x := lo) fun t ht => h t (.inr (.inl ht)), avo_congr (x := hi) fun t ht => h t (.inr (.inr ht))]
  case fa o x => rw [av_congr h]
  case fld o k g x => rw [av_congr h]
  case ia k x i => rw [av_congr fun t ht => h t (.inl ht), av_congr (x := i) fun t ht => h t (.inr ht)]
  case iaa n k x i => rw [av_congr fun t ht => h t (.inl ht), av_congr (x := i) fun t ht => h t (.inr ht)]
  case ixs x i => rw [av_congr fun t ht => h t (.inl ht), av_congr (x := i) fun t ht => h t (.inr ht)]
  case lk kk ok z m key => rw [av_congr fun t ht => h t (.inl ht), av_congr (x := key) fun t ht => h t (.inr ht)]
  case mu kk m key v => rw [av_congr fun t ht => h t (.inl ht), av_congr (x := key) fun t ht => h t (.inr (.inl ht)), av_congr (x := v) fun t ht => h t (.inr (.inr ht))]
  case ment kk z m key => rw [av_congr fun t ht => h t (.inl ht), av_congr (x := key) fun t ht => h t (.inr ht)]
  case est m j v => rw [av_congr fun t ht => h t (.inl ht), av_congr (x := j) fun t ht => h t (.inr (.inl ht)), av_congr (x := v) fun t ht => h t (.inr (.inr ht))]
  case ext x j => rw [av_congr h]
  case len str x => rw [av_congr h]
  case app k arr x y => rw [av_congr fun t ht => h t (.inl ht), av_congr (x := y) fun t ht => h t (.inr ht)]
  case mx x y => rw [av_congr fun t ht => h t (.inl ht), av_congr (x := y) fun t ht => h t (.inr ht)]
  case mn x y => rw [av_congr fun t ht => h t (.inl ht), av_congr (x := y) fun t ht => h t (.inr ht)]
  case clr k z x => rw [av_congr h]
  case call g iso args => rw [avs_congr h]
  case calld f iso args => rw [av_congr fun t ht => h t (.inl ht), avs_congr fun t ht => h t (.inr ht)]
  case cmps x y => rw [av_congr fun t ht => h t (.inl ht), av_congr (x := y) fun t ht => h t (.inr ht)]

theorem wanted_congr {gd : Option (Nat × Bool)} (h : ∀ t ∈ usG gd, fget fr t = fget fr' t) : DE.wanted fr gd = DE.wanted fr' gd := by
  cases gd with
  | none => rfl
  | some p =>
    obtain ⟨t, b⟩ := p
    simp only [DE.wanted]
    rw [h t (by simp [usG])]

theorem map_snd {α β : Type} {x : Option α} {f : α → β} {T : Store} {r : β × Store} (h : (x.map fun y => (f y, T)) = some r) : r.2 = T := by
  cases x with
  | none => cases h
  | some y => simp at h; rw [← h]

/-- An operation that is no writing leaves the store. -/
theorem evR_same {r : R} {d : D} (hk : kdX r = false) (h : evR cf fr S r = some (d, S')) : S' = S := by
  cases r <;> simp only [kdX, kdR] at hk <;> (try (cases hk; done)) <;> simp only [evR] at h
  case mv x => injection h with h; injection h with _ h; exact h.symm
  case nilck x => split at h <;> first | (injection h with h; injection h with _ h; exact h.symm) | cases h
  case pick c a b => split at h <;> first | (injection h with h; injection h with _ h; exact h.symm) | cases h
  case bld z ps => exact map_snd h
  case bsl k g own xs =>
    cases hc : cellsAll fr k g xs with
    | none => simp [hc] at h
    | some l =>
      have hl := cellsAll_length hc
      simp only [hc, Option.map_some, Option.some.injEq] at h
      cases own with
      | false => simp at h; exact h.2.symm
      | true =>
        cases xs with
        | nil =>
          have : l = [] := List.eq_nil_of_length_eq_zero (by simpa using hl)
          subst this
          simp at h; exact h.2.symm
        | cons x xs => simp at hk
  case ld k g x => exact map_snd h
  case bin op q x y => exact map_snd h
  case un op x => exact map_snd h
  case conv k x => split at h <;> first | (injection h with h; injection h with _ h; exact h.symm) | cases h
  case mkfn g cs => injection h with h; injection h with _ h; exact h.symm
  case slc k x lo hi => exact map_snd h
  case slcs x lo hi => exact map_snd h
  case fa o x => split at h <;> first | (injection h with h; injection h with _ h; exact h.symm) | cases h
  case fld o k g x =>
    split at h
    · exact map_snd h
    · cases h
  case ia k x i => exact map_snd h
  case iaa n k x i =>
    split at h
    · split at h
      · injection h with h; injection h with _ h; exact h.symm
      · cases h
    · cases h
  case ixs x i =>
    split at h
    · split at h
      · exact map_snd h
      · cases h
    · cases h
  case lk kk ok z m key =>
    split at h
    · split at h
      · injection h with h; injection h with _ h; exact h.symm
      · split at h
        · split at h <;> first | (injection h with h; injection h with _ h; exact h.symm) | cases h
        · cases h
      · cases h
    · cases h
  case ext x j =>
    split at h
    · exact map_snd h
    · cases h
  case len str x => split at h <;> first | (injection h with h; injection h with _ h; exact h.symm) | cases h
  case mx x y =>
    split at h
    · split at h
      · injection h with h; injection h with _ h; exact h.symm
      · cases h
    · cases h
  case mn x y =>
    split at h
    · split at h
      · injection h with h; injection h with _ h; exact h.symm
      · cases h
    · cases h
  case call g iso args =>
    cases iso with
    | false => simp at hk
    | true => simp only [callR, if_true] at h; exact map_snd h
  case calld f iso args =>
    cases iso with
    | false => simp at hk
    | true =>
      split at h
      · simp only [callR, if_true] at h; exact map_snd h
      · cases h
  case cmps x y => split at h <;> first | (injection h with h; injection h with _ h; exact h.symm) | cases h

theorem map_any {α β : Type} {x : Option α} {f : α → β} {T T' : Store} {d : β} (h : (x.map fun y => (f y, T)) = some (d, T)) : (x.map fun y => (f y, T')) = some (d, T') := by
  cases x with
  | none => cases h
  | some y => simp at h ⊢; exact h

/-- An operation that has nothing to do with the store says the same at each. -/
theorem evR_any {r : R} {d : D} (hk : kdP r = true) (h : evR cf fr S r = some (d, S)) (T : Store) : evR cf fr T r = some (d, T) := by
  cases r <;> simp only [kdP, kdR] at hk <;> (try (cases hk; done)) <;> simp only [evR] at h ⊢
  case mv x => injection h with h; injection h with h _; rw [h]
  case nilck x => split at h <;> first | (injection h with h; injection h with h _; rw [← h]) | cases h
  case pick c a b => split at h <;> first | (injection h with h; injection h with h _; rw [← h]) | cases h
  case bld z ps => exact map_any h
  case bsl k g own xs =>
    cases hc : cellsAll fr k g xs with
    | none => simp [hc] at h
    | some l =>
      have hl := cellsAll_length hc
      simp only [hc, Option.map_some, Option.some.injEq] at h ⊢
      cases own with
      | false => simp at h ⊢; exact h
      | true =>
        cases xs with
        | nil =>
          have : l = [] := List.eq_nil_of_length_eq_zero (by simpa using hl)
          subst this
          simp at h ⊢; exact h
        | cons x xs => simp at hk
  case bin op q x y => exact map_any h
  case un op x => exact map_any h
  case conv k x => split at h <;> first | (injection h with h; injection h with h _; rw [← h]) | cases h
  case mkfn g cs => injection h with h; injection h with h _; rw [h]
  case slc k x lo hi => exact map_any h
  case slcs x lo hi => exact map_any h
  case fa o x => split at h <;> first | (injection h with h; injection h with h _; rw [← h]) | cases h
  case fld o k g x =>
    split at h
    · exact map_any h
    · cases h
  case ia k x i => exact map_any h
  case iaa n k x i =>
    split at h
    · split at h
      · rename_i hc
        rw [if_pos hc]
        injection h with h; injection h with h _; rw [h]
      · cases h
    · cases h
  case ixs x i =>
    split at h
    · split at h
      · rename_i hc
        rw [if_pos hc]
        exact map_any h
      · cases h
    · cases h
  case ext x j =>
    split at h
    · exact map_any h
    · cases h
  case len str x => split at h <;> first | (injection h with h; injection h with h _; rw [← h]) | cases h
  case mx x y =>
    split at h
    · split at h
      · rename_i hc
        rw [if_pos hc]
        injection h with h; injection h with h _; rw [h]
      · cases h
    · cases h
  case mn x y =>
    split at h
    · split at h
      · rename_i hc
        rw [if_pos hc]
        injection h with h; injection h with h _; rw [h]
      · cases h
    · cases h
  case call g iso args =>
    cases iso with
    | false => simp at hk
    | true => simp only [callR, if_true] at h ⊢; exact map_any h
  case calld f iso args =>
    cases iso with
    | false => simp at hk
    | true =>
      split at h
      · simp only [callR, if_true] at h ⊢; exact map_any h
      · cases h
  case cmps x y => split at h <;> first | (injection h with h; injection h with h _; rw [← h]) | cases h

end

end Go.Proofs.YtjlmeikcfdanmaaGreatDoor.DE

namespace Go.Proofs.YtjlmeikcfdanmaaGreatDoor.DE
open Go

/-! ## Equality reckoned -/

theorem oeq_eq {a b : Own} (h : oeq a b = true) : a = b := by
  cases a <;> cases b <;> simp_all [oeq]

mutual
theorem deq_eq : ∀ {x y : D}, deq x y = true → x = y
  | .top, y, h => by cases y <;> simp_all [deq]
  | .b x, y, h => by cases y <;> simp_all [deq]
  | .i k x, y, h => by cases y <;> simp_all [deq]
  | .s x, y, h => by cases y <;> simp_all [deq]
  | .sl k n xs o, y, h => by
    cases y <;> simp only [deq, Bool.and_eq_true, beq_iff_eq] at h <;> try (cases h; done)
    obtain ⟨⟨⟨rfl, rfl⟩, h1⟩, h2⟩ := h
    rw [oeq_eq h1, deqLL_eq h2]
  | .agg x, y, h => by
    cases y <;> simp only [deq] at h <;> try (cases h; done)
    rw [deqL_eq h]
  | .tup x, y, h => by
    cases y <;> simp only [deq] at h <;> try (cases h; done)
    rw [deqL_eq h]
  | .bx a b, y, h => by cases y <;> simp_all [deq]
  | .el x a, y, h => by
    cases y <;> simp only [deq, Bool.and_eq_true, beq_iff_eq] at h <;> try (cases h; done)
    rw [h.1, deqL_eq h.2]
  | .ar a b c d, y, h => by cases y <;> simp_all [deq]
  | .nilp, y, h => by cases y <;> simp_all [deq]
  | .nilm, y, h => by cases y <;> simp_all [deq]
  | .mp a, y, h => by cases y <;> simp_all [deq]
  | .fn a x, y, h => by
    cases y <;> simp only [deq, Bool.and_eq_true, beq_iff_eq] at h <;> try (cases h; done)
    rw [h.1, deqL_eq h.2]
theorem deqL_eq : ∀ {x y : List D}, deqL x y = true → x = y
  | [], [], _ => rfl
  | [], _ :: _, h => by simp [deqL] at h
  | _ :: _, [], h => by simp [deqL] at h
  | x :: l, y :: m, h => by
    simp only [deqL, Bool.and_eq_true] at h
    rw [deq_eq h.1, deqL_eq h.2]
theorem deqLL_eq : ∀ {x y : List (List D)}, deqLL x y = true → x = y
  | [], [], _ => rfl
  | [], _ :: _, h => by simp [deqLL] at h
  | _ :: _, [], h => by simp [deqLL] at h
  | x :: l, y :: m, h => by
    simp only [deqLL, Bool.and_eq_true] at h
    rw [deqL_eq h.1, deqLL_eq h.2]
end

section
variable {cf : CallF} {fr fr' : List D} {S S' : Store}

/-- What an item says at its place, and what is left of it in the last frame. -/
def Hold (cf : CallF) (frp fr' : List D) (S1 S2 : Store) (i : I) : Prop :=
  ∀ dst gd r, asOp i = some (dst, gd, r) → ∃ b, DE.wanted frp gd = some b ∧
    (b = true → ∃ d, evR cf frp S1 r = some (d, S2) ∧ ∀ t, dst = some t → fget fr' t = if t < fr'.length then d else .top) ∧
    (b = false → S2 = S1 ∧ ∀ t, dst = some t → fget fr' t = if t < fr'.length then .tup [] else .top)

theorem fget_fsetO (fr : List D) (dst : Option Nat) (d : D) (t : Nat) (h : dst ≠ some t) : fget (fsetO fr dst d) t = fget fr t := by
  cases dst with
  | none => rfl
  | some u =>
    simp only [fsetO, fget_fset]
    rw [if_neg (fun hh => h (by rw [hh.1]))]

theorem fget_fsetO_self (fr : List D) (t : Nat) (d : D) : fget (fsetO fr (some t) d) t = if t < fr.length then d else .top := by
  simp only [fsetO, fget_fset, true_and]
  by_cases h : t < fr.length
  · rw [if_pos h, if_pos h]
  · rw [if_neg h, if_neg h, fget_ge _ _ (by omega)]

theorem fsetO_length (fr : List D) (dst : Option Nat) (d : D) : (fsetO fr dst d).length = fr.length := by
  cases dst with
  | none => rfl
  | some t => exact fset_length _ _ _

theorem evI_frame {i : I} (hfz : asOp i ≠ none) (h : evI cf fr S i = some (fr', S')) : fr'.length = fr.length ∧ ∀ t, dstI i ≠ some t → fget fr' t = fget fr t := by
  cases i with
  | op dst gd r =>
    simp only [evI] at h
    split at h
    · cases hr : evR cf fr S r with
      | none => simp [hr] at h
      | some p =>
        simp only [hr, Option.map_some, Option.some.injEq, Prod.mk.injEq] at h
        obtain ⟨rfl, rfl⟩ := h
        exact ⟨fsetO_length _ _ _, fun t ht => fget_fsetO _ _ _ _ ht⟩
    · simp only [Option.some.injEq, Prod.mk.injEq] at h
      obtain ⟨rfl, rfl⟩ := h
      exact ⟨fsetO_length _ _ _, fun t ht => fget_fsetO _ _ _ _ ht⟩
    · cases h
  | fz t => simp [asOp] at hfz
  | ck t r =>
    simp only [evI] at h
    split at h
    · split at h
      · simp only [Option.some.injEq, Prod.mk.injEq] at h
        obtain ⟨rfl, rfl⟩ := h
        exact ⟨rfl, fun _ _ => rfl⟩
      · cases h
    · cases h

theorem evI_store {i : I} (hx : isX i = false) (hck : ckOk i = true) (hfz : asOp i ≠ none) (h : evI cf fr S i = some (fr', S')) : S' = S := by
  cases i with
  | op dst gd r =>
    simp only [evI] at h
    split at h
    · cases hr : evR cf fr S r with
      | none => simp [hr] at h
      | some p =>
        simp only [hr, Option.map_some, Option.some.injEq, Prod.mk.injEq] at h
        obtain ⟨rfl, rfl⟩ := h
        exact evR_same (d := p.1) (by simpa [isX, kdX] using hx) hr
    · simp only [Option.some.injEq, Prod.mk.injEq] at h
      exact h.2.symm
    · cases h
  | fz t => simp [asOp] at hfz
  | ck t r =>
    simp only [evI] at h
    split at h
    · split at h
      · simp only [Option.some.injEq, Prod.mk.injEq] at h
        exact h.2.symm
      · cases h
    · cases h

theorem noDst_get {u : Nat} {l : List (Nat × I)} (h : noDst u l = true) : ∀ q ∈ l, dstI q.2 ≠ some u := fun q hq => by
  simpa using List.all_eq_true.1 h q hq

/-- One item. -/
theorem evI_hold {i : I} {fr1 : List D} {S1 : Store} (hck : ckOk i = true) (h : evI cf fr S i = some (fr1, S1)) (hl : fr'.length = fr.length)
    (hd : ∀ t, (dstI i = some t ∨ ∃ r, i = .ck t r) → fget fr' t = fget fr1 t) : Hold cf fr fr' S S1 i := by
  intro dst gd r ha
  cases i with
  | op dst' gd' r' =>
    simp only [asOp, Option.some.injEq, Prod.mk.injEq] at ha
    obtain ⟨rfl, rfl, rfl⟩ := ha
    simp only [evI] at h
    split at h
    · rename_i hwt
      refine ⟨true, hwt, fun _ => ?_, fun h => (by cases h)⟩
      cases he : evR cf fr S r' with
      | none => simp [he] at h
      | some p =>
        simp only [he, Option.map_some, Option.some.injEq, Prod.mk.injEq] at h
        obtain ⟨rfl, rfl⟩ := h
        refine ⟨p.1, rfl, fun t ht => ?_⟩
        subst ht
        rw [hd t (.inl rfl), fget_fsetO_self, hl]
    · rename_i hwf
      simp only [Option.some.injEq, Prod.mk.injEq] at h
      obtain ⟨rfl, rfl⟩ := h
      refine ⟨false, hwf, fun h => (by cases h), fun _ => ⟨rfl, fun t ht => ?_⟩⟩
      subst ht
      rw [hd t (.inl rfl), fget_fsetO_self, hl]
    · cases h
  | fz t => simp [asOp] at ha
  | ck t r' =>
    simp only [asOp, Option.some.injEq, Prod.mk.injEq] at ha
    obtain ⟨rfl, rfl, rfl⟩ := ha
    refine ⟨true, rfl, fun _ => ?_, fun h => (by cases h)⟩
    simp only [evI] at h
    split at h
    · rename_i d T he
      split at h
      · rename_i hdq
        simp only [Option.some.injEq, Prod.mk.injEq] at h
        obtain ⟨rfl, rfl⟩ := h
        have hk : kdX r' = false := by simpa [ckOk] using hck
        have := evR_same (d := d) hk he
        subst this
        refine ⟨d, he, fun u hu => ?_⟩
        injection hu with hu; subst hu
        rw [hd t (.inr ⟨r', rfl⟩), deq_eq hdq, hl]
        by_cases hlt : t < fr.length
        · rw [if_pos hlt]
        · rw [if_neg hlt, fget_ge _ _ (by omega)]
      · cases h
    · cases h

theorem trace : ∀ (is : List (Nat × I)) {fr S fr' S'}, evIs cf fr S (snds is) = some (fr', S') → uniq is = true → (∀ q ∈ is, asOp q.2 ≠ none ∧ ckOk q.2 = true) →
    fr'.length = fr.length ∧ (∀ t, (∀ q ∈ is, dstI q.2 ≠ some t) → fget fr' t = fget fr t) ∧
    ∃ sto : Nat → Store, sto 0 = S ∧ sto (nX is) = S' ∧ ∀ pre j i post, is = pre ++ (j, i) :: post → ∃ frp, frp.length = fr.length ∧ (∀ u, noDst u pre = true → fget frp u = fget fr u) ∧
      (∀ u, noDst u ((j, i) :: post) = true → fget frp u = fget fr' u) ∧ Hold cf frp fr' (sto (nX pre)) (sto (nX pre + if isX i then 1 else 0)) i
  | [], fr, S, fr', S', h, _, _ => by
    simp only [snds, evIs, Option.some.injEq, Prod.mk.injEq] at h
    obtain ⟨rfl, rfl⟩ := h
    exact ⟨rfl, fun _ _ => rfl, fun _ => S, rfl, rfl, fun pre j i post h => by cases pre <;> cases h⟩
  | (j, i) :: is, fr, S, fr', S', h, hsep, hok => by
    simp only [snds, evIs] at h
    split at h
    · rename_i fr1 S1 he
      simp only [uniq, Bool.and_eq_true] at hsep
      obtain ⟨hs2, hs3⟩ := hsep
      obtain ⟨hfz, hck⟩ := hok (j, i) (by simp)
      obtain ⟨hl, hun, sto, e0, em, hhold⟩ := trace is h hs3 fun q hq => hok q (by simp [hq])
      obtain ⟨hl1, hf1⟩ := evI_frame hfz he
      have hlen : fr'.length = fr.length := hl.trans hl1
      have hunt : ∀ t, (∀ q ∈ (j, i) :: is, dstI q.2 ≠ some t) → fget fr' t = fget fr t := fun t ht =>
        (hun t fun q hq => ht q (by simp [hq])).trans (hf1 t (ht (j, i) (by simp)))
      have hhd : Hold cf fr fr' S S1 i := by
        refine evI_hold hck he hlen fun t ht => hun t ?_
        rcases ht with ht | ⟨r, rfl⟩
        · cases i with
          | op dst gd r =>
            simp only [dstI] at ht
            subst ht
            exact noDst_get hs2
          | fz u => simp [asOp] at hfz
          | ck u r => cases ht
        · exact noDst_get hs2
      have head : ∃ frp, frp.length = fr.length ∧ (∀ u, noDst u [] = true → fget frp u = fget fr u) ∧ (∀ u, noDst u ((j, i) :: is) = true → fget frp u = fget fr' u) ∧ Hold cf frp fr' S S1 i :=
        ⟨fr, rfl, fun _ _ => rfl, fun u hu => (hunt u (noDst_get hu)).symm, hhd⟩
      have later : ∀ pre j' i' post T1 T2, (∃ frp, frp.length = fr1.length ∧ (∀ u, noDst u pre = true → fget frp u = fget fr1 u) ∧ (∀ u, noDst u ((j', i') :: post) = true → fget frp u = fget fr' u) ∧ Hold cf frp fr' T1 T2 i') →
          ∃ frp, frp.length = fr.length ∧ (∀ u, noDst u ((j, i) :: pre) = true → fget frp u = fget fr u) ∧ (∀ u, noDst u ((j', i') :: post) = true → fget frp u = fget fr' u) ∧ Hold cf frp fr' T1 T2 i' := by
        rintro pre j' i' post T1 T2 ⟨frp, a1, a2, a3, a4⟩
        refine ⟨frp, a1.trans hl1, fun u hu => ?_, a3, a4⟩
        have hu' := noDst_get hu
        rw [a2 u (by simp only [noDst, List.all_cons, Bool.and_eq_true] at hu ⊢; exact hu.2)]
        exact hf1 u (hu' (j, i) (by simp))
      cases hx : isX i with
      | false =>
        have hst := evI_store hx hck hfz he
        subst hst
        refine ⟨hlen, hunt, sto, e0, by simp only [nX, hx]; simpa using em, fun pre j' i' post hp => ?_⟩
        cases pre with
        | nil =>
          simp only [List.nil_append, List.cons.injEq, Prod.mk.injEq] at hp
          obtain ⟨⟨rfl, rfl⟩, rfl⟩ := hp
          simp only [nX, hx, Bool.false_eq_true, if_false, Nat.add_zero, e0]
          exact head
        | cons q pre =>
          simp only [List.cons_append, List.cons.injEq] at hp
          obtain ⟨rfl, hp⟩ := hp
          simp only [nX, hx, Bool.false_eq_true, if_false, Nat.zero_add]
          exact later pre j' i' post _ _ (hhold pre j' i' post hp)
      | true =>
        refine ⟨hlen, hunt, fun n => match n with | 0 => S | n + 1 => sto n, rfl, by simp only [nX, hx, if_true]; rw [Nat.add_comm]; exact em, fun pre j' i' post hp => ?_⟩
        cases pre with
        | nil =>
          simp only [List.nil_append, List.cons.injEq, Prod.mk.injEq] at hp
          obtain ⟨⟨rfl, rfl⟩, rfl⟩ := hp
          simp only [nX, hx, if_true, Nat.zero_add, e0]
          exact head
        | cons q pre =>
          simp only [List.cons_append, List.cons.injEq] at hp
          obtain ⟨rfl, hp⟩ := hp
          have := later pre j' i' post _ _ (hhold pre j' i' post hp)
          simp only [nX, hx, if_true]
          rw [Nat.add_comm 1 (nX pre), Nat.add_right_comm]
          exact this
    · cases h

theorem usesOk_get {ops : List Oper} {B : List Nat} : ∀ {l pre : List (Nat × I)}, usesOk ops B pre l = true → ∀ p j i post, l = p ++ (j, i) :: post → useOk ops B (pre ++ p) j i post = true
  | [], _, _, p, j, i, post, h => by cases p <;> cases h
  | (j', i') :: l, pre, hu, p, j, i, post, h => by
    simp only [usesOk, Bool.and_eq_true] at hu
    cases p with
    | nil =>
      simp only [List.nil_append, List.cons.injEq, Prod.mk.injEq] at h
      obtain ⟨⟨rfl, rfl⟩, rfl⟩ := h
      simpa using hu.1
    | cons q p =>
      simp only [List.cons_append, List.cons.injEq] at h
      obtain ⟨rfl, h⟩ := h
      have := usesOk_get hu.2 p j i post h
      simpa using this

end

/-! ## What stands before what -/

inductive Bef (ops : List Oper) : Nat → Nat → Prop
  | edge {j : Nat} {o : Oper} {e : Edge} (ho : ops[j]? = some o) (he : e ∈ o.after.toList) (hb : Region.binds .any e = true) : Bef ops e.on j
  | step {q j : Nat} {o : Oper} {e : Edge} (ho : ops[j]? = some o) (he : e ∈ o.after.toList) (hb : Region.binds .any e = true) (h : Bef ops q e.on) : Bef ops q j

theorem fold_bit (acc : List Nat) : ∀ (l : List Edge) (s q : Nat), (l.foldl (fun s e => if Region.binds .any e then s ||| 2 ^ e.on ||| acc.getD e.on 0 else s) s).testBit q = true →
    s.testBit q = true ∨ ∃ e ∈ l, Region.binds .any e = true ∧ (q = e.on ∨ (acc.getD e.on 0).testBit q = true)
  | [], s, q, h => .inl h
  | e :: l, s, q, h => by
    simp only [List.foldl_cons] at h
    rcases fold_bit acc l _ q h with h | ⟨e', he', h1, h2⟩
    · split at h
      · rename_i hb
        simp only [Nat.testBit_or, Bool.or_eq_true, Nat.testBit_two_pow, decide_eq_true_eq] at h
        rcases h with (h | h) | h
        · exact .inl h
        · exact .inr ⟨e, by simp, hb, .inl h.symm⟩
        · exact .inr ⟨e, by simp, hb, .inr h⟩
      · exact .inl h
    · exact .inr ⟨e', by simp [he'], h1, h2⟩

theorem befores_ok : ∀ (l pre : List Oper) (acc : List Nat), acc.length = pre.length → (∀ j q, (acc.getD j 0).testBit q = true → Bef (pre ++ l) q j) →
    ∀ j q, ((befores l acc).getD j 0).testBit q = true → Bef (pre ++ l) q j
  | [], pre, acc, _, h => h
  | o :: l, pre, acc, hl, h => by
    intro j q hq
    have e : pre ++ o :: l = (pre ++ [o]) ++ l := by simp
    simp only [befores] at hq
    rw [e]
    refine befores_ok l (pre ++ [o]) _ (by simp [hl]) (fun j q hj => ?_) j q hq
    rw [← e]
    by_cases h1 : j < acc.length
    · refine h j q ?_
      rw [List.getD_eq_getElem?_getD, List.getElem?_append_left h1, ← List.getD_eq_getElem?_getD] at hj
      exact hj
    · by_cases h2 : j = acc.length
      · subst h2
        rw [List.getD_eq_getElem?_getD, List.getElem?_append_right (Nat.le_refl _)] at hj
        simp only [Nat.sub_self, List.getElem?_cons_zero, Option.getD_some] at hj
        have ho : (pre ++ o :: l)[acc.length]? = some o := by rw [hl]; simp
        rcases fold_bit acc _ _ _ hj with h3 | ⟨e', he', hb, h3 | h3⟩
        · simp at h3
        · subst h3
          exact .edge ho he' hb
        · exact .step ho he' hb (h _ _ h3)
      · rw [List.getD_eq_getElem?_getD, List.getElem?_eq_none (by simp; omega)] at hj
        simp at hj

theorem bbit_bef {ops : List Oper} {q j : Nat} (h : bbit (befores ops []) q j = true) : Bef ops q j :=
  befores_ok ops [] [] rfl (fun j q h => by simp at h) j q h

theorem Bef.closed {ops : List Oper} {L : Nat → Prop} (hcl : ∀ j o e, L j → ops[j]? = some o → e ∈ o.after.toList → Region.binds .any e = true → L e.on) {q j : Nat} (h : Bef ops q j) :
    (∀ o e, ops[j]? = some o → e ∈ o.after.toList → Region.binds .any e = true → L e.on) → L q := by
  induction h with
  | edge ho he hb => exact fun hj => hj _ _ ho he hb
  | step ho he hb h ih => exact fun hj => ih fun o e h1 h2 h3 => hcl _ o e (hj _ _ ho he hb) h1 h2 h3

theorem mem_ann : ∀ {is : List (Nat × I)} {n k j : Nat} {i : I}, (k, j, i) ∈ ann n is → ∃ pre post, is = pre ++ (j, i) :: post ∧ k = n + nX pre
  | [], _, _, _, _, h => by simp [ann] at h
  | (j', i') :: is, n, k, j, i, h => by
    simp only [ann, List.mem_cons, Prod.mk.injEq] at h
    rcases h with ⟨rfl, rfl, rfl⟩ | h
    · exact ⟨[], is, rfl, by simp [nX]⟩
    · obtain ⟨pre, post, h1, h2⟩ := mem_ann h
      refine ⟨(j', i') :: pre, post, by rw [h1]; rfl, ?_⟩
      simp only [nX]
      omega

theorem xs_get : ∀ {is pre : List (Nat × I)} {j : Nat} {i : I} {post : List (Nat × I)}, is = pre ++ (j, i) :: post → isX i = true → (xsOf is)[nX pre]? = some j
  | _, [], j, i, post, rfl, hx => by simp [xsOf, hx, nX]
  | _, (j', i') :: pre, j, i, post, rfl, hx => by
    have ih := xs_get (is := pre ++ (j, i) :: post) rfl hx
    simp only [List.cons_append, xsOf, nX]
    split
    · rw [Nat.add_comm, List.getElem?_cons_succ]; exact ih
    · rw [Nat.zero_add]; exact ih

theorem xs_ann : ∀ {is : List (Nat × I)} {p j : Nat} (n : Nat), (xsOf is)[p]? = some j → ∃ i, (n + p, j, i) ∈ ann n is ∧ isX i = true
  | [], _, _, _, h => by simp [xsOf] at h
  | (j', i') :: is, p, j, n, h => by
    simp only [xsOf] at h
    simp only [ann]
    cases hx : isX i' with
    | true =>
      rw [hx, if_pos rfl] at h
      cases p with
      | zero =>
        simp at h; subst h
        exact ⟨i', by simp, hx⟩
      | succ p =>
        obtain ⟨i, h1, h2⟩ := xs_ann (1 + n) (by simpa using h)
        refine ⟨i, ?_, h2⟩
        simp only [if_true, List.mem_cons]
        rw [show n + (p + 1) = 1 + n + p by omega]
        exact .inr h1
    | false =>
      rw [hx] at h
      simp only [Bool.false_eq_true, if_false] at h
      obtain ⟨i, h1, h2⟩ := xs_ann (0 + n) h
      refine ⟨i, ?_, h2⟩
      simp only [Bool.false_eq_true, if_false, List.mem_cons]
      rw [Nat.zero_add] at h1 ⊢
      exact .inr h1

theorem xs_len : ∀ (is : List (Nat × I)), (xsOf is).length = nX is
  | [] => rfl
  | (j, i) :: is => by
    simp only [xsOf, nX]
    split
    · simp [xs_len is]; omega
    · simp [xs_len is]

theorem ndB_ne : ∀ {l : List Nat} {i j x y : Nat}, ndB l = true → l[i]? = some x → l[j]? = some y → i ≠ j → x ≠ y
  | [], _, _, _, _, _, h, _, _ => by simp at h
  | a :: l, 0, 0, _, _, _, _, _, h => absurd rfl h
  | a :: l, 0, j + 1, x, y, hn, h1, h2, _ => by
    simp only [ndB, Bool.and_eq_true, List.all_eq_true] at hn
    simp at h1 h2
    have := hn.1 y (List.mem_of_getElem? h2)
    simp at this
    rw [← h1]; exact fun e => this e.symm
  | a :: l, i + 1, 0, x, y, hn, h1, h2, _ => by
    simp only [ndB, Bool.and_eq_true, List.all_eq_true] at hn
    simp at h1 h2
    have := hn.1 x (List.mem_of_getElem? h1)
    simp at this
    rw [← h2]; exact this
  | a :: l, i + 1, j + 1, x, y, hn, h1, h2, h => by
    simp only [ndB, Bool.and_eq_true] at hn
    exact ndB_ne hn.2 (by simpa using h1) (by simpa using h2) (by omega)

theorem chain_get {B : List Nat} : ∀ {l : List Nat} {i x y : Nat}, chainB B l = true → l[i]? = some x → l[i + 1]? = some y → bbit B x y = true
  | [], _, _, _, _, h, _ => by simp at h
  | [_], 0, _, _, _, _, h => by simp at h
  | [_], _ + 1, _, _, _, h, _ => by simp at h
  | a :: b :: l, 0, x, y, hc, h1, h2 => by
    simp only [chainB, Bool.and_eq_true] at hc
    simp at h1 h2
    subst h1 h2
    exact hc.1
  | a :: b :: l, i + 1, x, y, hc, h1, h2 => by
    simp only [chainB, Bool.and_eq_true] at hc
    exact chain_get hc.2 (by simpa using h1) (by simpa using h2)

theorem count_lt {p p' : Nat → Bool} : ∀ {l : List Nat} {x : Nat}, (∀ y ∈ l, p' y = true → p y = true) → x ∈ l → p x = true → p' x = false → l.countP p' < l.countP p
  | [], _, _, h, _, _ => by simp at h
  | y :: l, x, hm, hx, h1, h2 => by
    have hle : l.countP p' ≤ l.countP p := List.countP_mono_left fun z hz => hm z (by simp [hz])
    simp only [List.countP_cons]
    by_cases hxy : x = y
    · subst hxy
      simp [h1, h2]; omega
    · have := count_lt (p := p) (p' := p') (l := l) (fun z hz => hm z (by simp [hz])) (by simpa [hxy] using hx) h1 h2
      have hy := hm y (by simp)
      cases hp : p' y with
      | false => simp; omega
      | true => simp [hy hp]; omega

end Go.Proofs.YtjlmeikcfdanmaaGreatDoor.DE

namespace Go.Proofs.YtjlmeikcfdanmaaGreatDoor.DE
open Go

section
variable {P : Program} {dp : Nat → Option Fn} {F F' : Fix} {G G' : List Gh} {w w' : World} {S S' : Store} {a : Act} {fr fr' : List D} {o : Oper} {d : D} {cf : CallF}

theorem wanted_run {ops : Array Oper} {gd : Option (Nat × Bool)} {b : Bool} (hm : mGd ops.toList o.guard gd = true) (hf : Fr dp F G w a fr) (hw : DE.wanted fr gd = some b) : Region.wanted o (yielded ops a.tmps) = b := by
  unfold mGd at hm
  split at hm
  · rename_i h1
    simp only [DE.wanted, Option.some.injEq] at hw
    simp [Region.wanted, h1, hw]
  · rename_i j x t y h1
    simp only [Bool.and_eq_true, beq_iff_eq] at hm
    obtain ⟨rfl, hm⟩ := hm
    split at hm
    · rename_i op hop
      split at hm
      · rename_i u hu
        simp only [beq_iff_eq] at hm
        subst hm
        have hr := hf.rel u
        have hop' : ops[j]? = some op := by simpa using hop
        simp only [Region.wanted, h1]
        simp only [DE.wanted] at hw
        cases ht : a.tmps[u]? with
        | none =>
          have hy : yielded ops a.tmps j = none := by simp [yielded, hop', hu, ht]
          rw [hy]
          have hg : a.tmps.getD u undef = undef := by simp [ht]
          rw [hg] at hr
          split at hw
          · rename_i y hy'
            rw [hy'] at hr
            cases hr
          · simp only [Option.some.injEq] at hw
            subst hw
            rfl
          · cases hw
        | some v =>
          have hg : a.tmps.getD u undef = v := by simp [ht]
          rw [hg] at hr
          split at hw
          · rename_i y hy'
            rw [hy'] at hr
            cases hr
            have hy : yielded ops a.tmps j = some y := by simp [yielded, hop', hu, ht]
            rw [hy]
            simp only [Option.some.injEq] at hw
            rw [← hw]
            simp
          · rename_i hy'
            rw [hy'] at hr
            cases hr
            have hy : yielded ops a.tmps j = none := by simp [yielded, hop', hu, ht]
            rw [hy]
            simp only [Option.some.injEq] at hw
            rw [← hw]
            rfl
          · cases hw
      · cases hm
    · cases hm
  · cases hm

theorem rel_undef : Rel dp F G w undef (.tup []) := .tup #[] [] rfl fun j v d h => by simp at h

theorem put_defers (a : Act) (t : Option Nat) (v : Value) : (a.put t v).defers = a.defers := by
  cases t <;> rfl

theorem step_op {ops : Array Oper} {Q : Exit → Act → World → Prop} {K : Act → World → Prop} {dst : Option Nat} {gd : Option (Nat × Bool)} {r : R} {b : Bool} (hc : CallOk P dp cf) (hen : Enter P dp)
    (hm : mI P dp ops.toList o (.op dst gd r) = true) (hs : Sim dp F G w S) (hf : Fr dp F G w a fr) (hw : DE.wanted fr gd = some b)
    (hd : (b = true ∧ evR cf fr S r = some (d, S')) ∨ (b = false ∧ d = .tup [] ∧ S' = S))
    (hK : ∀ a' w' F' G', Sim dp F' G' w' S' → Ext F G w S F' G' w' S' → Fr dp F' G' w' a' (fsetO fr dst d) → a'.defers = a.defers → K a' w') :
    if Region.wanted o (yielded ops a.tmps) then o.wp P a w K Q ∨ (o.asks P a w ∧ LetsOut Q) else K (a.put o.dst undef) w := by
  simp only [mI, Bool.and_eq_true] at hm
  obtain ⟨⟨h1, h2⟩, h3⟩ := hm
  have hdst : o.dst = dst := by
    unfold mDst at h1
    split at h1
    · rename_i e; rw [e]
    · rename_i e; rw [e]; simpa using h1
    · cases h1
  rw [wanted_run h2 hf hw]
  rcases hd with ⟨rfl, he⟩ | ⟨rfl, rfl, rfl⟩
  · simp only [if_true]
    refine .inl (ok_R hc hen h3 hs hf he K Q fun v w' F' G' k1 k2 k3 => hK _ w' F' G' k1 k2 ?_ (put_defers _ _ _))
    rw [hdst]
    exact (hf.ext k2).put dst k3
  · simp only [Bool.false_eq_true, if_false]
    refine hK _ w F G hs (Ext.refl _ _ _ _) ?_ (put_defers _ _ _)
    rw [hdst]
    exact hf.put dst rel_undef

theorem evI_op {dst : Option Nat} {gd : Option (Nat × Bool)} {r : R} {fr1 : List D} {S1 : Store} (h : evI cf fr S (.op dst gd r) = some (fr1, S1)) :
    ∃ b d, DE.wanted fr gd = some b ∧ ((b = true ∧ evR cf fr S r = some (d, S1)) ∨ (b = false ∧ d = .tup [] ∧ S1 = S)) ∧ fr1 = fsetO fr dst d := by
  simp only [evI] at h
  split at h
  · rename_i hw
    cases hr : evR cf fr S r with
    | none => simp [hr] at h
    | some p =>
      simp only [hr, Option.map_some, Option.some.injEq, Prod.mk.injEq] at h
      obtain ⟨rfl, rfl⟩ := h
      exact ⟨true, p.1, hw, .inl ⟨rfl, rfl⟩, rfl⟩
  · rename_i hw
    simp only [Option.some.injEq, Prod.mk.injEq] at h
    obtain ⟨rfl, rfl⟩ := h
    exact ⟨false, .tup [], hw, .inr ⟨rfl, rfl, rfl⟩, rfl⟩
  · cases h

theorem ok_reg {ops : Array Oper} {Q : Exit → Act → World → Prop} (hc : CallOk P dp cf) (hen : Enter P dp) : ∀ (is : List I) (l : List Oper) {fr S fr' S' F G w a}, mReg P dp ops.toList l is = true → evIs cf fr S is = some (fr', S') →
    Sim dp F G w S → Fr dp F G w a fr → (∀ a' w' F' G', Sim dp F' G' w' S' → Ext F G w S F' G' w' S' → Fr dp F' G' w' a' fr' → a'.defers = a.defers → Q .normal a' w') → wpList P ops Q l a w
  | [], l, fr, S, fr', S', F, G, w, a, hm, he, hs, hf, hQ => by
    cases l with
    | nil =>
      simp only [evIs, Option.some.injEq, Prod.mk.injEq] at he
      obtain ⟨rfl, rfl⟩ := he
      exact hQ a w F G hs (Ext.refl _ _ _ _) hf rfl
    | cons o l => simp [mReg] at hm
  | i :: is, l, fr, S, fr', S', F, G, w, a, hm, he, hs, hf, hQ => by
    simp only [evIs] at he
    split at he
    · rename_i fr1 S1 hi
      cases i with
      | fz t =>
        have hm' : mReg P dp ops.toList l is = true := by cases l <;> simpa [mReg] using hm
        simp only [evI] at hi
        cases hz : fzD (fget fr t) S with
        | none => simp [hz] at hi
        | some p =>
          simp only [hz, Option.map_some, Option.some.injEq, Prod.mk.injEq] at hi
          obtain ⟨rfl, rfl⟩ := hi
          obtain ⟨F1, k1, k2, k3⟩ := ok_fz hs hf hz
          exact ok_reg hc hen is l hm' he k1 k3 fun a' w' F' G' q1 q2 q3 q4 => hQ a' w' F' G' q1 (k2.trans q2) q3 q4
      | op dst gd r =>
        cases l with
        | nil => simp [mReg] at hm
        | cons o l =>
          simp only [mReg, Bool.and_eq_true] at hm
          obtain ⟨b, d, hw, hd, rfl⟩ := evI_op hi
          unfold wpList
          exact step_op hc hen hm.1 hs hf hw hd fun a' w' F' G' k1 k2 k3 k4 =>
            ok_reg hc hen is l hm.2 he k1 k3 fun a'' w'' F'' G'' q1 q2 q3 q4 => hQ a'' w'' F'' G'' q1 (k2.trans q2) q3 (q4.trans k4)
      | ck t r =>
        cases l with
        | nil => simp [mReg] at hm
        | cons o l => simp [mReg, mI] at hm
    · cases he

theorem Sim.drew (hs : Sim dp F G w S) (hf : Fr dp F G w a fr) : Sim dp F G w.drew S ∧ Ext F G w S F G w.drew S ∧ Fr dp F G w.drew a fr := by
  have h := hs.step (w' := w.drew) (fun _ => False) hs.len (fun _ _ h => h) (fun _ _ h => h) (fun _ _ _ => rfl) (fun _ _ h => .inl h) (fun _ _ _ => rfl) (fun _ h => h.elim)
    (fun id e g h1 h2 => .inr (.inl ⟨h1, h2, fun h => h⟩)) (Nat.le_refl _) rfl rfl rfl
  exact ⟨h.1, h.2, hf.ext h.2⟩

/-- What holds while a region goes on in a drawn order. -/
structure Inv (P : Program) (dp : Nat → Option Fn) (F : Fix) (G : List Gh) (w0 : World) (S0 : Store) (ops : Array Oper) (xs : List Nat) (sto : Nat → Store) (fr0 fr' : List D) (ds : List Deferred)
    (L : Array Bool) (a : Act) (w : World) : Prop where
  size : L.size = ops.size
  closed : ∀ (j : Nat) (o : Oper) (e : Edge), L.getD j false = true → ops.toList[j]? = some o → e ∈ o.after.toList → Region.binds .any e = true → L.getD e.on false = true
  defers : a.defers = ds
  st : ∃ k frL F1 G1, k ≤ xs.length ∧ (∀ (i x : Nat), xs[i]? = some x → (L.getD x false = true ↔ i < k)) ∧ Sim dp F1 G1 w (sto k) ∧ Ext F G w0 S0 F1 G1 w (sto k) ∧ Fr dp F1 G1 w a frL ∧ frL.length = fr'.length ∧
    (∀ (j : Nat) (o : Oper) (t : Nat), L.getD j false = true → ops.toList[j]? = some o → o.dst = some t → fget frL t = fget fr' t) ∧
    (∀ t, (∀ (j : Nat) (o : Oper), L.getD j false = true → ops.toList[j]? = some o → o.dst ≠ some t) → fget frL t = fget fr0 t)

theorem getD_eq_false {L : Array Bool} {j : Nat} (h : L.getD j true = false) : j < L.size ∧ L.getD j false = false := by
  rcases Nat.lt_or_ge j L.size with h' | h'
  · refine ⟨h', ?_⟩
    simp [h'] at h ⊢
    exact h
  · simp [Array.getElem?_eq_none h'] at h

theorem getD_set {L : Array Bool} {i : Nat} (hi : i < L.size) (j : Nat) (b : Bool) : (L.setIfInBounds i true).getD j b = if j = i then true else L.getD j b := by
  by_cases h : j = i
  · subst h; simp [hi]
  · rw [if_neg h]
    simp [Array.getElem?_setIfInBounds_ne (Ne.symm h)]

theorem wp_dreg {id : Nat} {ops : Array Oper} {is : List (Nat × I)} {Q : Exit → Act → World → Prop} (hfol : P.follows .mixedOrders = true) (hc : CallOk P dp cf) (hen : Enter P dp) (hm : mDr P dp ops.toList is = true)
    (he : evIs cf fr S (snds is) = some (fr', S')) (hs : Sim dp F G w S) (hf : Fr dp F G w a fr)
    (hQ : ∀ a' w' F' G', Sim dp F' G' w' S' → Ext F G w S F' G' w' S' → Fr dp F' G' w' a' fr' → a'.defers = a.defers → Q .normal a' w') : (Code.region id ops true).wp P Q a w := by
  simp only [mDr, Bool.and_eq_true, List.all_eq_true] at hm
  obtain ⟨⟨⟨⟨⟨⟨hitems, hsep⟩, huses⟩, hedges⟩, hnd⟩, hchain⟩, hcov⟩ := hm
  have hasop : ∀ q ∈ is, asOp q.2 ≠ none ∧ ckOk q.2 = true := by
    intro q hq
    obtain ⟨h1, h2⟩ := hitems q hq
    refine ⟨fun hn => ?_, h2⟩
    unfold itemOk at h1
    split at h1
    · rw [hn] at h1; cases h1
    · cases h1
  obtain ⟨hlen, hunt, sto, e0, em, hhold⟩ := trace is he hsep hasop
  -- an item at its place
  have item : ∀ k j i, (k, j, i) ∈ ann 0 is → itemOk P dp ops.toList j i = true ∧ ∃ pre post frp, useOk ops.toList (befores ops.toList []) pre j i post = true ∧ is = pre ++ (j, i) :: post ∧
      (∀ u, noDst u pre = true → fget frp u = fget fr u) ∧ (∀ u, noDst u ((j, i) :: post) = true → fget frp u = fget fr' u) ∧ Hold cf frp fr' (sto k) (sto (k + if isX i then 1 else 0)) i := by
    intro k j i h
    obtain ⟨pre, post, h1, h2⟩ := mem_ann h
    rw [Nat.zero_add] at h2
    subst h2
    obtain ⟨frp, a1, a2, a3, a4⟩ := hhold pre j i post h1
    have := usesOk_get huses pre j i post h1
    exact ⟨(hitems (j, i) (by rw [h1]; simp)).1, pre, post, frp, by simpa using this, h1, a2, a3, a4⟩
  -- nothing writes what no operation has for its place
  have nowhere : ∀ u, (∀ (q : Nat) (oq : Oper), ops.toList[q]? = some oq → oq.dst ≠ some u) → ∀ q ∈ is, dstI q.2 ≠ some u := by
    intro u hno q hq hd
    have h1 := (hitems q hq).1
    unfold itemOk at h1
    split at h1
    · rename_i o ho
      split at h1
      · rename_i dst gd r hop
        simp only [mI, Bool.and_eq_true] at h1
        have hd2 := h1.1.1
        cases hq2 : q.2 with
        | op dst' gd' r' =>
          rw [hq2] at hop hd
          simp only [asOp, Option.some.injEq, Prod.mk.injEq] at hop
          simp only [dstI] at hd
          rw [← hop.1, hd] at hd2
          unfold mDst at hd2
          split at hd2
          · rename_i e; cases e
          · rename_i u v e1 e2
            injection e2 with e2
            subst e2
            simp only [beq_iff_eq] at hd2
            subst hd2
            exact hno _ o ho e1
          · cases hd2
        | fz u => rw [hq2] at hop; simp [asOp] at hop
        | ck u r' => rw [hq2] at hd; simp [dstI] at hd
      · cases h1
    · cases h1
  obtain ⟨hs1, hx1, hf1⟩ := hs.drew hf
  have hedge : ∀ (j : Nat) (o : Oper) (e : Edge), ops.toList[j]? = some o → e ∈ o.after.toList → Region.binds .any e = true → e.on < j := by
    intro j o e ho hE hb
    have h1 := (List.all_eq_true.1 hedges) (o, j) (by
      rw [List.mem_iff_getElem?]
      refine ⟨j, ?_⟩
      simp [List.getElem?_zipIdx] at ho ⊢
      exact ho)
    have h2 := List.all_eq_true.1 h1 e hE
    simpa [hb] using h2
  -- the step
  have main : ∀ (fuel : Nat) (L : Array Bool) (a1 : Act) (w1 : World), (List.range ops.size).countP (fun j => !L.getD j true) ≤ fuel → Inv P dp F G w S ops (xsOf is) sto fr fr' a.defers L a1 w1 → wpAny P .any ops Q fuel L a1 w1 := by
    have done : ∀ (L : Array Bool) (a1 : Act) (w1 : World), Inv P dp F G w S ops (xsOf is) sto fr fr' a.defers L a1 w1 → Region.ready .any ops L = [] → Q .normal a1 w1 := by
      intro L a1 w1 hI hr
      have all : ∀ n j, j ≤ n → j < ops.size → L.getD j false = true := by
        intro n
        induction n with
        | zero =>
          intro j hj hlt
          have hj0 : j = 0 := by omega
          subst hj0
          rcases Bool.eq_false_or_eq_true (L.getD 0 true) with h | h
          · have : 0 < L.size := by rw [hI.size]; exact hlt
            simp [this] at h ⊢; exact h
          · exfalso
            have : 0 ∈ Region.ready .any ops L := mem_ready.2 ⟨h, ops[0], Array.getElem?_eq_getElem hlt, fun e he hb => by
              have := hedge 0 ops[0] e (by simp [hlt]) (by simpa using he) hb
              omega⟩
            rw [hr] at this
            cases this
        | succ n ih =>
          intro j hj hlt
          rcases Bool.eq_false_or_eq_true (L.getD j true) with h | h
          · have : j < L.size := by rw [hI.size]; exact hlt
            simp [this] at h ⊢; exact h
          · exfalso
            have : j ∈ Region.ready .any ops L := mem_ready.2 ⟨h, ops[j], Array.getElem?_eq_getElem hlt, fun e he hb => by
              have := hedge j ops[j] e (by simp [hlt]) (by simpa using he) hb
              exact ih e.on (by omega) (by omega)⟩
            rw [hr] at this
            cases this
      obtain ⟨k, frL, F1, G1, hk, hxk, k1, k2, k3, k4, k5, k6⟩ := hI.st
      have hkm : k = (xsOf is).length := by
        rcases Nat.lt_or_ge k (xsOf is).length with h | h
        · exfalso
          have hget := List.getElem?_eq_getElem h
          have hlt : (xsOf is)[k] < ops.size := by
            -- an item of the list
            have hmem : ∀ (l : List (Nat × I)) (x : Nat), x ∈ xsOf l → ∃ i, (x, i) ∈ l := by
              intro l
              induction l with
              | nil => intro x h; simp [xsOf] at h
              | cons q l ih =>
                intro x h
                simp only [xsOf] at h
                split at h
                · rcases List.mem_cons.1 h with h | h
                  · exact ⟨q.2, by rw [h]; simp⟩
                  · obtain ⟨i, hi⟩ := ih x h
                    exact ⟨i, by simp [hi]⟩
                · obtain ⟨i, hi⟩ := ih x h
                  exact ⟨i, by simp [hi]⟩
            obtain ⟨i, hi⟩ := hmem is _ (List.getElem_mem h)
            have h1 := (hitems _ hi).1
            unfold itemOk at h1
            split at h1
            · rename_i o ho
              have := (List.getElem?_eq_some_iff.1 ho).1
              simpa using this
            · cases h1
          have := (hxk k _ hget).1 (all _ _ (Nat.le_refl _) hlt)
          omega
        · omega
      rw [hkm, xs_len, em] at k1 k2
      refine hQ a1 w1 F1 G1 k1 k2 ⟨by rw [← k4]; exact k3.len, fun t => ?_⟩ hI.defers
      have hfin : fget frL t = fget fr' t := by
        by_cases hex : ∃ (j : Nat) (o : Oper), L.getD j false = true ∧ ops.toList[j]? = some o ∧ o.dst = some t
        · obtain ⟨j, o, h1, h2, h3⟩ := hex
          exact k5 j o t h1 h2 h3
        · have hno : ∀ (j : Nat) (o : Oper), ops.toList[j]? = some o → o.dst ≠ some t := by
            intro j o h2 h3
            have hlt : j < ops.size := by simpa using (List.getElem?_eq_some_iff.1 h2).1
            exact hex ⟨j, o, all _ _ (Nat.le_refl _) hlt, h2, h3⟩
          rw [k6 t fun j o _ h2 => hno j o h2]
          exact (hunt t (nowhere t hno)).symm
      rw [← hfin]
      exact k3.rel t
    intro fuel
    induction fuel with
    | zero =>
      intro L a1 w1 hcnt hI
      have hr : Region.ready .any ops L = [] := by
        rw [List.eq_nil_iff_forall_not_mem]
        intro j hj
        obtain ⟨h1, o, ho, _⟩ := mem_ready.1 hj
        have hlt : j < ops.size := (Array.getElem?_eq_some_iff.1 ho).1
        have : 0 < (List.range ops.size).countP (fun j => !L.getD j true) := List.countP_pos_iff.2 ⟨j, List.mem_range.2 hlt, by rw [h1]; rfl⟩
        omega
      exact ⟨hr, done L a1 w1 hI hr⟩
    | succ fuel ih =>
      intro L a1 w1 hcnt hI
      refine ⟨done L a1 w1 hI, fun j hj => ?_⟩
      obtain ⟨hjun, oj, hoj, hjed⟩ := mem_ready.1 hj
      obtain ⟨hjL, hjf⟩ := getD_eq_false hjun
      have hlt : j < ops.size := (Array.getElem?_eq_some_iff.1 hoj).1
      have hoj' : ops.toList[j]? = some oj := by simpa using hoj
      have hbef : ∀ q, bbit (befores ops.toList []) q j = true → L.getD q false = true := fun q hq =>
        (bbit_bef hq).closed (L := fun q => L.getD q false = true) hI.closed fun o e h1 h2 h3 => by
          rw [hoj'] at h1; injection h1 with h1; subst h1
          exact hjed e (by simpa using h2) h3
      have hcnt' : (List.range ops.size).countP (fun q => !(L.setIfInBounds j true).getD q true) ≤ fuel := by
        have := count_lt (l := List.range ops.size) (x := j) (p := fun q => !L.getD q true) (p' := fun q => !(L.setIfInBounds j true).getD q true) (fun y _ hy => by
          simp only [getD_set hjL] at hy
          split at hy
          · cases hy
          · exact hy) (List.mem_range.2 hlt) (by simp only [hjun]; rfl) (by simp [getD_set hjL])
        omega
      obtain ⟨k, frL, F1, G1, hk, hxk, k1, k2, k3, k4, k5, k6⟩ := hI.st
      -- what is enough
      have enough : ∀ (k0 k' : Nat) (i : I) (pre post : List (Nat × I)) (frp : List D), itemOk P dp ops.toList j i = true → useOk ops.toList (befores ops.toList []) pre j i post = true → is = pre ++ (j, i) :: post →
          (∀ u, noDst u pre = true → fget frp u = fget fr u) → (∀ u, noDst u ((j, i) :: post) = true → fget frp u = fget fr' u) → k' ≤ (xsOf is).length → (∀ (p x : Nat), (xsOf is)[p]? = some x → ((x = j ∨ L.getD x false = true) ↔ p < k')) →
          (∀ dst gd r, asOp i = some (dst, gd, r) → ∃ b d, DE.wanted frp gd = some b ∧ ((b = true ∧ evR cf frp (sto k) r = some (d, sto k')) ∨ (b = false ∧ d = .tup [] ∧ sto k' = sto k)) ∧
            ∀ t, dst = some t → fget fr' t = if t < fr'.length then d else .top) →
          wpOp P ops Q j (wpAny P .any ops Q fuel (L.setIfInBounds j true)) a1 w1 := by
        intro k0 k' i pre post frp hio huse hisp hpre hpost hk' hxs hev
        unfold itemOk at hio
        rw [hoj'] at hio
        dsimp only at hio
        split at hio
        · rename_i dst gd r hop
          have hmI := hio
          obtain ⟨b, d, hw, hd, hfd⟩ := hev dst gd r hop
          -- the operands are as they were
          have hagree : ∀ u ∈ usG gd ++ usR r, fget frL u = fget frp u := by
            intro u hu
            have hu' : u ∈ usO i ∨ (∃ t r', i = .ck t r') := by
              cases i with
              | op dst' gd' r' =>
                simp only [asOp, Option.some.injEq, Prod.mk.injEq] at hop
                obtain ⟨rfl, rfl, rfl⟩ := hop
                exact .inl hu
              | fz t => simp [asOp] at hop
              | ck t r' =>
                simp only [asOp, Option.some.injEq, Prod.mk.injEq] at hop
                obtain ⟨rfl, rfl, rfl⟩ := hop
                exact .inl (by simpa [usG, usO] using hu)
            have hu'' : u ∈ usO i := by
              rcases hu' with h | ⟨t, r', rfl⟩
              · exact h
              · simp only [asOp, Option.some.injEq, Prod.mk.injEq] at hop
                obtain ⟨rfl, rfl, rfl⟩ := hop
                simpa [usG, usO] using hu
            have h1 := List.all_eq_true.1 huse u hu''
            have hzip : ∀ (q : Nat) (oq : Oper), ops.toList[q]? = some oq → (oq, q) ∈ ops.toList.zipIdx := by
              intro q oq h2
              rw [List.mem_iff_getElem?]
              refine ⟨q, ?_⟩
              simp [List.getElem?_zipIdx] at h2 ⊢
              exact h2
            simp only [Bool.or_eq_true, Bool.and_eq_true] at h1
            rcases h1 with ⟨hno, hall⟩ | ⟨hno, hall⟩
            · rw [hpost u hno]
              by_cases hex : ∃ (q : Nat) (oq : Oper), ops.toList[q]? = some oq ∧ oq.dst = some u
              · obtain ⟨q, oq, h2, h3⟩ := hex
                have h4 := List.all_eq_true.1 hall (oq, q) (hzip q oq h2)
                simp only [h3, bne_self_eq_false, Bool.false_or] at h4
                exact k5 q oq u (hbef q h4) h2 h3
              · have hno' : ∀ (q : Nat) (oq : Oper), ops.toList[q]? = some oq → oq.dst ≠ some u := fun q oq h2 h3 => hex ⟨q, oq, h2, h3⟩
                rw [k6 u fun q oq _ h2 => hno' q oq h2]
                exact (hunt u (nowhere u hno')).symm
            · rw [hpre u hno]
              refine k6 u fun q oq hq h2 h3 => ?_
              have h4 := List.all_eq_true.1 hall (oq, q) (hzip q oq h2)
              simp only [h3, bne_self_eq_false, Bool.false_or] at h4
              have := (bbit_bef h4).closed (L := fun q => L.getD q false = true) hI.closed fun o e a1 a2 a3 => hI.closed q o e hq a1 a2 a3
              rw [hjf] at this
              cases this
          have hw' : DE.wanted frL gd = some b := by
            rw [← hw]; exact wanted_congr fun t ht => hagree t (by simp [ht])
          have hd' : (b = true ∧ evR cf frL (sto k) r = some (d, sto k')) ∨ (b = false ∧ d = .tup [] ∧ sto k' = sto k) := by
            rcases hd with ⟨h1, h2⟩ | h
            · exact .inl ⟨h1, by rw [← h2]; exact evR_congr fun t ht => hagree t (by simp [ht])⟩
            · exact .inr h
          have hdst : oj.dst = dst := by
            simp only [mI, Bool.and_eq_true] at hmI
            have h1 := hmI.1.1
            unfold mDst at h1
            split at h1
            · rename_i e; rw [e]
            · rename_i e; rw [e]; simpa using h1
            · cases h1
          unfold wpOp
          rw [hoj]
          dsimp only
          refine step_op hc hen hmI k1 k3 hw' hd' fun a2 w2 F2 G2 q1 q2 q3 q4 => ih _ a2 w2 hcnt' ?_
          refine ⟨by simp [hI.size], fun q o e h1 h2 h3 h4 => ?_, by rw [q4]; exact hI.defers, k', fsetO frL dst d, F2, G2, hk', ?_, q1, k2.trans q2, q3, by rw [fsetO_length]; exact k4, ?_, ?_⟩
          · rw [getD_set hjL] at h1 ⊢
            split
            · rfl
            · split at h1
              · rename_i hqj
                subst hqj
                rw [hoj'] at h2; injection h2 with h2; subst h2
                exact hjed e (by simpa using h3) h4
              · exact hI.closed q o e h1 h2 h3 h4
          · intro p x hx
            rw [← hxs p x hx, getD_set hjL]
            by_cases hxj : x = j
            · simp [hxj]
            · simp [hxj]
          · intro q o t h1 h2 h3
            rw [getD_set hjL] at h1
            by_cases ht : dst = some t
            · rw [hfd t ht]
              subst ht
              rw [fget_fsetO_self, k4]
            · rw [fget_fsetO _ _ _ _ ht]
              split at h1
              · rename_i hqj
                subst hqj
                rw [hoj'] at h2; injection h2 with h2; subst h2
                exact absurd (hdst.symm.trans h3) ht
              · exact k5 q o t h1 h2 h3
          · intro t ht
            have hne : dst ≠ some t := by
              intro h
              exact ht j oj (by rw [getD_set hjL]; simp) hoj' (hdst.trans h)
            rw [fget_fsetO _ _ _ _ hne]
            refine k6 t fun q o h1 h2 => ht q o ?_ h2
            rw [getD_set hjL]
            split
            · rfl
            · exact h1
        · cases hio
      have hcj := hcov j (List.mem_range.2 (by simpa using hlt))
      unfold covOk at hcj
      simp only [Bool.or_eq_true] at hcj
      -- an item that is no writing
      have still : ∀ (k0 : Nat) (i : I), (k0, j, i) ∈ ann 0 is → isX i = false → (∀ (p x : Nat), (xsOf is)[p]? = some x → x ≠ j) →
          (∀ frp dst gd r d, asOp i = some (dst, gd, r) → evR cf frp (sto k0) r = some (d, sto k0) → evR cf frp (sto k) r = some (d, sto k)) →
          wpOp P ops Q j (wpAny P .any ops Q fuel (L.setIfInBounds j true)) a1 w1 := by
        intro k0 i hann hx hnx hmove
        obtain ⟨hio, pre, post, frp, huse, hisp, hpre, hpost, hhold⟩ := item k0 j i hann
        refine enough k0 k i pre post frp hio huse hisp hpre hpost hk (fun p x hpx => ?_) fun dst gd r hop => ?_
        · rw [← hxk p x hpx]
          simp [hnx p x hpx]
        · obtain ⟨b, h1, h2, h3⟩ := hhold dst gd r hop
          simp only [hx, Bool.false_eq_true, if_false, Nat.add_zero] at h2 h3
          cases b with
          | true =>
            obtain ⟨d, h4, h5⟩ := h2 rfl
            exact ⟨true, d, h1, .inl ⟨rfl, hmove frp dst gd r d hop h4⟩, h5⟩
          | false => exact ⟨false, .tup [], h1, .inr ⟨rfl, rfl, rfl⟩, (h3 rfl).2⟩
      by_cases hx : ∃ p : Nat, (xsOf is)[p]? = some j
      · obtain ⟨p, hp⟩ := hx
        have hpl := (List.getElem?_eq_some_iff.1 hp).1
        obtain ⟨i, hann, hxi⟩ := xs_ann 0 hp
        rw [Nat.zero_add] at hann
        have hkp : k = p := by
          have h1 : ¬ p < k := fun h => by
            have := (hxk p j hp).2 h
            rw [hjf] at this
            cases this
          rcases Nat.eq_zero_or_pos p with h0 | h0
          · omega
          · have hlt' : p - 1 < (xsOf is).length := by omega
            have hg := List.getElem?_eq_getElem hlt'
            have hb := chain_get (i := p - 1) hchain hg (by rw [show p - 1 + 1 = p by omega]; exact hp)
            have := (hxk _ _ hg).1 (hbef _ hb)
            omega
        subst hkp
        obtain ⟨hio, pre, post, frp, huse, hisp, hpre, hpost, hhold'⟩ := item k j i hann
        refine enough k (k + 1) i pre post frp hio huse hisp hpre hpost hpl (fun q x hq => ?_) fun dst gd r hop => ?_
        · by_cases hqk : q = k
          · subst hqk
            rw [hp] at hq; injection hq with hq
            simp [hq]
          · have hne := ndB_ne hnd hq hp hqk
            have := hxk q x hq
            simp only [hne, false_or]
            rw [this]
            omega
        · obtain ⟨b, h1, h2, h3⟩ := hhold' dst gd r hop
          simp only [hxi, if_true] at h2 h3
          cases b with
          | true =>
            obtain ⟨d, h4, h5⟩ := h2 rfl
            exact ⟨true, d, h1, .inl ⟨rfl, h4⟩, h5⟩
          | false => exact ⟨false, .tup [], h1, .inr ⟨rfl, rfl, (h3 rfl).1⟩, (h3 rfl).2⟩
      · have hnx : ∀ (p x : Nat), (xsOf is)[p]? = some x → x ≠ j := fun p x h e => hx ⟨p, by rw [h, e]⟩
        have notX : ∀ (k0 : Nat) (i : I), (k0, j, i) ∈ ann 0 is → isX i = false := by
          intro k0 i h
          rcases Bool.eq_false_or_eq_true (isX i) with h1 | h1
          · obtain ⟨pre, post, h2, _⟩ := mem_ann h
            exact (hx ⟨nX pre, xs_get h2 h1⟩).elim
          · exact h1
        rcases hcj with hcj | hcj
        · obtain ⟨⟨k0, j', i⟩, hann, h1⟩ := List.any_eq_true.1 hcj
          simp only [Bool.and_eq_true, beq_iff_eq] at h1
          obtain ⟨rfl, h1⟩ := h1
          have hni := notX k0 i hann
          refine still k0 i hann hni hnx fun frp dst gd r d hop hev => ?_
          cases i with
          | op dst' gd' r' =>
            simp only [asOp, Option.some.injEq, Prod.mk.injEq] at hop
            obtain ⟨rfl, rfl, rfl⟩ := hop
            simp only [Bool.or_eq_true] at h1
            rcases h1 with h1 | h1
            · exact evR_any h1 hev (sto k)
            · have : isX (.op dst' gd' r') = kdX r' := rfl
              rw [this, h1] at hni
              cases hni
          | fz t => cases h1
          | ck t r' => cases h1
        · have h1 := List.all_eq_true.1 hcj k (List.mem_range.2 (by omega))
          simp only [Bool.or_eq_true] at h1
          rcases h1 with h1 | h1
          · exfalso
            obtain ⟨⟨x, p⟩, hxp, h2⟩ := List.any_eq_true.1 h1
            have hget : (xsOf is)[p]? = some x := by
              obtain ⟨q, hq⟩ := List.mem_iff_getElem?.1 hxp
              simp [List.getElem?_zipIdx] at hq
              obtain ⟨y, hy, e1, e2⟩ := hq
              rw [← e2, ← e1]
              exact hy
            simp only [Bool.or_eq_true, Bool.and_eq_true, Bool.not_eq_true', decide_eq_false_iff_not] at h2
            rcases h2 with ⟨h2, h3⟩ | ⟨h2, h3⟩
            · exact h3 ((hxk p x hget).1 (hbef x h2))
            · have hLx := (hxk p x hget).2 (by omega)
              have := (bbit_bef h2).closed (L := fun q => L.getD q false = true) hI.closed fun o e a1 a2 a3 => hI.closed x o e hLx a1 a2 a3
              rw [hjf] at this
              cases this
          · obtain ⟨⟨k0, j', i⟩, hann, h2⟩ := List.any_eq_true.1 h1
            simp only [Bool.and_eq_true, beq_iff_eq] at h2
            obtain ⟨⟨rfl, rfl⟩, _⟩ := h2
            exact still k0 i hann (notX k0 i hann) hnx fun frp dst gd r d _ hev => hev
  have hrep : ∀ j, (Array.replicate ops.size false).getD j false = false := by
    intro j
    by_cases h : j < ops.size <;> simp [h]
  refine wp_region_any hfol (main ops.size _ a w.drew ?_ ?_)
  · refine Nat.le_trans List.countP_le_length ?_
    simp
  · refine ⟨by simp, fun j o e h => ?_, rfl, 0, fr, F, G, Nat.zero_le _, fun i x _ => ?_, by rw [e0]; exact hs1, by rw [e0]; exact hx1, hf1, hlen.symm, fun j o t h => ?_, fun t _ => rfl⟩
    · rw [hrep] at h; cases h
    · rw [hrep]; simp
    · rw [hrep] at h; cases h

end

end Go.Proofs.YtjlmeikcfdanmaaGreatDoor.DE

namespace Go.Proofs.YtjlmeikcfdanmaaGreatDoor.DE
open Go

section
variable (P : Program) (dp : Nat → Option Fn)

def mC : C → Code → Bool
  | .bad, _ => true
  | .skip, .skip => true
  | .reg is _, .region _ ops false => mReg P dp ops.toList ops.toList is
  | .dreg is _, .region _ ops true => mDr P dp ops.toList is
  | .seq a b, .seq c d => mC a c && mC b d
  | .cond x a b, .cond y c d => mA dp y x && mC a c && mC b d
  | .blk i a, .block j b => i == j && mC a b
  | .loop _ a, .loop b => mC a b
  | .exit i, .exit j => i == j
  | .ret, .ret => true
  | _, _ => false

def mRes : List ResultVar → List Res → Bool
  | [], [] => true
  | .tmp t :: l, .t n :: m => t == n && mRes l m
  | .cell a t :: l, .cell n k g :: m => a == n && mT P t k g && mRes l m
  | _, _ => false

def mFn (f : Fn) : Bool := match P.funcs[f.real]? with
  | some fn => fn.name != "runtime.NumGoroutine" && fn.ntmps == f.nt && mRes P fn.results.toList f.res && (match fn.body with | some c => mC P dp f.body c | none => false)
  | none => false

/-- The evaluator's table of functions is the program's. -/
def Good : Prop := ∀ g f, dp g = some f → mFn P dp f = true

end

section
variable {P : Program} {dp : Nat → Option Fn} {F F' : Fix} {G G' : List Gh} {w w' : World} {S S' : Store} {a : Act} {fr fr' : List D} {o : Oper} {d : D} {cf : CallF}

theorem Good.enter (h : Good P dp) : Enter P dp := by
  intro g f hg
  have hm := h g f hg
  unfold mFn at hm
  split at hm
  · rename_i fn hfn
    simp only [Bool.and_eq_true, bne_iff_ne, ne_eq] at hm
    refine ⟨fn, hfn, by simpa using hm.1.1.1, ?_⟩
    have := hm.2
    split at this
    · rename_i c hc; simp [hc]
    · cases this
  · cases hm

def toExit : Ex → Exit
  | .normal => .normal
  | .exit id => .exit id
  | .ret => .ret

theorem wp_loop_n {c : Code} {Q : Exit → Act → World → Prop} (J : Nat → Act → World → Prop) (round : ∀ n a w, J n a w → c.wp P (Exit.then (fun a' w' => ∃ m, m < n ∧ J m a' w') Q) a w) :
    ∀ (n : Nat) (a : Act) (w : World), J n a w → (Code.loop c).wp P Q a w := by
  have key : ∀ n a w, J n a w → ∀ (b : Frame) (k : List Item) (cs : List Frame), ∃ e a' w', Q e a' w' ∧ Arrives P (lone (b.at a (.code c :: .inLoop c :: k)) cs w) b k cs e a' w' := by
    intro n
    induction n using Nat.strongRecOn with
    | _ n ih =>
      intro a w hI b k cs
      obtain ⟨e, a₁, w₁, hq, harr⟩ := round n a w hI b (.inLoop c :: k) cs
      cases e with
      | normal =>
        obtain ⟨m, hlt, hI₁⟩ := hq
        obtain ⟨e₂, a₂, w₂, hq₂, harr₂⟩ := ih m hlt a₁ w₁ hI₁ b k cs
        exact ⟨e₂, a₂, w₂, hq₂, .of_steps (Steps.trans harr (.one step_inLoop)) harr₂⟩
      | exit id => exact ⟨_, a₁, w₁, hq, .pass (x := .inLoop c) rfl (fun _ _ => .inl (by simp)) harr⟩
      | goto l => exact ⟨_, a₁, w₁, hq, .pass (x := .inLoop c) rfl (fun _ _ => .inl (by simp)) harr⟩
      | ret => exact ⟨_, a₁, w₁, hq, .pass (x := .inLoop c) rfl (fun _ _ => .inl (by simp)) harr⟩
      | panic ch => exact ⟨_, a₁, w₁, hq, .pass (x := .inLoop c) rfl (fun _ _ => .inl (by simp)) harr⟩
      | outgrown => exact ⟨_, a₁, w₁, hq, .pass (x := .inLoop c) rfl (fun _ _ => .inl (by simp)) harr⟩
  intro n a w h b k cs
  obtain ⟨e, a', w', hq, harr⟩ := key n a w h b k cs
  exact ⟨e, a', w', hq, .of_steps (.one step_loop) harr⟩

theorem ok_code (hfol : P.follows .mixedOrders = true) (hc : CallOk P dp cf) (hen : Enter P dp) (n : Nat) : ∀ (c : C) (code : Code), mC P dp c code = true → ∀ {fr S ex fr' S'}, exec cf n c fr S = some (ex, fr', S') →
    ∀ ⦃F G w a Q⦄, Sim dp F G w S → Fr dp F G w a fr →
      (∀ a' w' F' G', Sim dp F' G' w' S' → Ext F G w S F' G' w' S' → Fr dp F' G' w' a' fr' → a'.defers = a.defers → Q (toExit ex) a' w') → code.wp P Q a w
  | .bad, _, _, _, _, _, _, _, he => by cases he
  | .skip, code, hm, fr, S, ex, fr', S', he => by
    intro F G w a Q hs hf hQ
    cases code <;> simp only [mC] at hm <;> try (cases hm; done)
    simp only [exec, Option.some.injEq, Prod.mk.injEq] at he
    obtain ⟨rfl, rfl, rfl⟩ := he
    exact wp_skip (hQ a w F G hs (Ext.refl _ _ _ _) hf rfl)
  | .reg is kl, code, hm, fr, S, ex, fr', S', he => by
    intro F G w a Q hs hf hQ
    obtain ⟨id, ops, rfl⟩ : ∃ id ops, code = .region id ops false := by
      cases code
      case region id ops draw =>
        cases draw
        · exact ⟨id, ops, rfl⟩
        · simp [mC] at hm
      all_goals (simp [mC] at hm)
    simp only [mC] at hm
    simp only [exec] at he
    split at he
    · rename_i fr1 S1 hev
      simp only [Option.some.injEq, Prod.mk.injEq] at he
      obtain ⟨rfl, rfl, rfl⟩ := he
      exact wp_region_list (ok_reg hc hen is _ hm hev hs hf fun a' w' F' G' k1 k2 k3 k4 => hQ a' w' F' G' k1 k2 (k3.kill kl) k4)
    · cases he
  | .dreg is kl, code, hm, fr, S, ex, fr', S', he => by
    intro F G w a Q hs hf hQ
    obtain ⟨id, ops, rfl⟩ : ∃ id ops, code = .region id ops true := by
      cases code
      case region id ops draw =>
        cases draw
        · simp [mC] at hm
        · exact ⟨id, ops, rfl⟩
      all_goals (simp [mC] at hm)
    simp only [mC] at hm
    simp only [exec] at he
    split at he
    · rename_i fr1 S1 hev
      simp only [Option.some.injEq, Prod.mk.injEq] at he
      obtain ⟨rfl, rfl, rfl⟩ := he
      exact wp_dreg hfol hc hen hm hev hs hf fun a' w' F' G' k1 k2 k3 k4 => hQ a' w' F' G' k1 k2 (k3.kill kl) k4
    · cases he
  | .seq x y, code, hm, fr, S, ex, fr', S', he => by
    intro F G w a Q hs hf hQ
    cases code <;> simp only [mC, Bool.and_eq_true] at hm <;> try (cases hm; done)
    rename_i x' y'
    refine wp_seq ?_
    simp only [exec] at he
    split at he
    · rename_i fr1 S1 hev
      refine ok_code hfol hc hen n x x' hm.1 hev hs hf fun a' w' F' G' k1 k2 k3 k4 => ?_
      exact ok_code hfol hc hen n y y' hm.2 he k1 k3 fun a'' w'' F'' G'' q1 q2 q3 q4 => hQ a'' w'' F'' G'' q1 (k2.trans q2) q3 (q4.trans k4)
    · rename_i hno
      refine ok_code hfol hc hen n x x' hm.1 he hs hf fun a' w' F' G' k1 k2 k3 k4 => ?_
      have := hQ a' w' F' G' k1 k2 k3 k4
      cases ex with
      | normal => exact (hno fr' S' he).elim
      | exit id => exact this
      | ret => exact this
  | .cond q x y, code, hm, fr, S, ex, fr', S', he => by
    intro F G w a Q hs hf hQ
    cases code <;> simp only [mC, Bool.and_eq_true] at hm <;> try (cases hm; done)
    rename_i q' x' y'
    have hr := hf.eval hm.1.1
    simp only [exec] at he
    split at he
    · rename_i heq
      rw [heq] at hr
      generalize hv : a.eval q' = v at hr
      cases hr
      exact wp_cond_true hv (ok_code hfol hc hen n x x' hm.1.2 he hs hf hQ)
    · rename_i heq
      rw [heq] at hr
      generalize hv : a.eval q' = v at hr
      cases hr
      exact wp_cond_false hv (ok_code hfol hc hen n y y' hm.2 he hs hf hQ)
    · cases he
  | .blk id x, code, hm, fr, S, ex, fr', S', he => by
    intro F G w a Q hs hf hQ
    cases code <;> simp only [mC, Bool.and_eq_true, beq_iff_eq] at hm <;> try (cases hm; done)
    rename_i id' x'
    obtain ⟨rfl, hm⟩ := hm
    refine wp_block ?_
    simp only [exec] at he
    split at he
    · rename_i j fr1 S1 hev
      simp only [Option.some.injEq, Prod.mk.injEq] at he
      obtain ⟨rfl, rfl, rfl⟩ := he
      refine ok_code hfol hc hen n x x' hm hev hs hf fun a' w' F' G' k1 k2 k3 k4 => ?_
      have := hQ a' w' F' G' k1 k2 k3 k4
      simp only [toExit, Exit.inBlock]
      split
      · rename_i hj
        rw [if_pos hj] at this
        exact this
      · rename_i hj
        rw [if_neg hj] at this
        exact this
    · rename_i hno
      refine ok_code hfol hc hen n x x' hm he hs hf fun a' w' F' G' k1 k2 k3 k4 => ?_
      have := hQ a' w' F' G' k1 k2 k3 k4
      cases ex with
      | normal => exact this
      | exit j => exact (hno j fr' S' he).elim
      | ret => exact this
  | .loop kl x, code, hm, fr, S, ex, fr', S', he => by
    intro F G w a Q hs hf hQ
    cases code <;> simp only [mC] at hm <;> try (cases hm; done)
    rename_i x'
    simp only [exec] at he
    refine wp_loop_n (fun m a1 w1 => ∃ fr1 S1 F1 G1, iter (fun fr S => exec cf n x (fkill fr kl) S) m fr1 S1 = some (ex, fr', S') ∧ Sim dp F1 G1 w1 S1 ∧ Ext F G w S F1 G1 w1 S1 ∧ Fr dp F1 G1 w1 a1 fr1 ∧ a1.defers = a.defers)
      (fun m a1 w1 hJ => ?_) n a w ⟨fr, S, F, G, he, hs, Ext.refl _ _ _ _, hf, rfl⟩
    obtain ⟨fr1, S1, F1, G1, hit, k1, k2, k3, k4⟩ := hJ
    cases m with
    | zero => cases hit
    | succ m =>
      simp only [iter] at hit
      split at hit
      · rename_i fr2 S2 hev
        refine ok_code hfol hc hen n x x' hm hev k1 (k3.kill kl) fun a2 w2 F2 G2 q1 q2 q3 q4 => ?_
        exact ⟨m, Nat.lt_succ_self m, fr2, S2, F2, G2, hit, q1, k2.trans q2, q3, q4.trans k4⟩
      · rename_i hno
        refine ok_code hfol hc hen n x x' hm hit k1 (k3.kill kl) fun a2 w2 F2 G2 q1 q2 q3 q4 => ?_
        have := hQ a2 w2 F2 G2 q1 (k2.trans q2) q3 (q4.trans k4)
        cases ex with
        | normal => exact (hno fr' S' hit).elim
        | exit j => exact this
        | ret => exact this
  | .exit id, code, hm, fr, S, ex, fr', S', he => by
    intro F G w a Q hs hf hQ
    cases code <;> simp only [mC, beq_iff_eq] at hm <;> try (cases hm; done)
    subst hm
    simp only [exec, Option.some.injEq, Prod.mk.injEq] at he
    obtain ⟨rfl, rfl, rfl⟩ := he
    exact wp_exit (hQ a w F G hs (Ext.refl _ _ _ _) hf rfl)
  | .ret, code, hm, fr, S, ex, fr', S', he => by
    intro F G w a Q hs hf hQ
    cases code <;> simp only [mC] at hm <;> try (cases hm; done)
    simp only [exec, Option.some.injEq, Prod.mk.injEq] at he
    obtain ⟨rfl, rfl, rfl⟩ := he
    exact wp_ret (hQ a w F G hs (Ext.refl _ _ _ _) hf rfl)

/-! ## Functions -/

theorem ld_var {t : TypeId} {k : Nat} {g : Bool} {v : Value} {id p : Nat} (hT : mT P t k g = true) (hs : Sim dp F G w S) (hr : Rel dp F G w v (.bx id p)) (he : ldD S k g (.bx id p) = some d) :
    ∃ ad u, v = .pointer (some ad) ∧ (loadVar t ad).run P w = .ok u w ∧ Rel dp F G w u d := by
  cases hr with
  | bx _ _ gh hg =>
    simp only [ldD] at he
    split at he
    · rename_i cs hsg
      obtain ⟨vs, T, hh, hl, _, _, hc⟩ := hs.ent id _ gh hsg hg
      have := rd_rel (P := P) (dp := dp) (F := F) (G := G) (w := w) (cs := cs) (k := k) (off := p) (g := g) (t := t) (blk := gh.blk) (base := 0) (c := fun m => vs.getD m undef) hT (fun m e hme => by
        have hlt : m < vs.size := Nat.lt_of_lt_of_le (List.getElem?_eq_some_iff.1 hme).1 hl
        have e1 : vs[m]? = some (vs.getD m undef) := by simp [Array.getD, hlt]
        exact ⟨by rw [Nat.zero_add, cell_box hh, e1], hc m _ e e1 hme⟩) he
      rw [Nat.zero_add] at this
      obtain ⟨u, hu, hru⟩ := this
      exact ⟨_, u, rfl, hu, hru⟩
    · cases he

def resF (a : Act) : ResultVar → Sem Value
  | .tmp t => pure (a.tmps.getD t undef)
  | .cell b t => do loadVar t (← asAddr (a.tmps.getD b undef))

theorem results_eq (fn : Func) (a : Act) : results fn a.tmps = (do let vs ← fn.results.mapM (resF a); pure (if h : vs.size = 1 then vs[0] else .tuple vs)) := by
  unfold results
  congr 1

theorem run_results (hs : Sim dp F G w S) (hf : Fr dp F G w a fr) : ∀ {rs : List ResultVar} {ms : List Res} {l : List D}, mRes P rs ms = true → resL fr S ms = some l →
    ∃ vs : List Value, (rs.mapM (resF a)).run P w = .ok vs w ∧ vs.length = l.length ∧
      ∀ (j : Nat) (v : Value) (d : D), vs[j]? = some v → l[j]? = some d → Rel dp F G w v d
  | [], [], l, _, he => by
    simp only [resL, Option.some.injEq] at he
    subst he
    exact ⟨[], rfl, rfl, fun j v d h => by simp at h⟩
  | [], _ :: _, _, hm, _ => by simp [mRes] at hm
  | .tmp t :: rs, [], _, hm, _ => by simp [mRes] at hm
  | .cell b t :: rs, [], _, hm, _ => by simp [mRes] at hm
  | .tmp t :: rs, .cell n k g :: ms, _, hm, _ => by simp [mRes] at hm
  | .cell b t :: rs, .t n :: ms, _, hm, _ => by simp [mRes] at hm
  | .tmp t :: rs, .t n :: ms, l, hm, he => by
    simp only [mRes, Bool.and_eq_true, beq_iff_eq] at hm
    obtain ⟨rfl, hm⟩ := hm
    simp only [resL, res1] at he
    cases hr : resL fr S ms with
    | none => simp [hr] at he
    | some m =>
      simp only [hr, Option.some.injEq] at he
      subst he
      obtain ⟨vs, h1, h2, h3⟩ := run_results hs hf hm hr
      refine ⟨a.tmps.getD t undef :: vs, ?_, by simp [h2], fun j v d hv hd => ?_⟩
      · simp only [List.mapM_cons, resF, Sem.run_bind, Sem.run_pure, Result.andThen, h1]
      · cases j with
        | zero => simp at hv hd; subst hv hd; simpa using hf.rel t
        | succ j => exact h3 j v d (by simpa using hv) (by simpa using hd)
  | .cell b t :: rs, .cell n k g :: ms, l, hm, he => by
    simp only [mRes, Bool.and_eq_true, beq_iff_eq] at hm
    obtain ⟨⟨rfl, hT⟩, hm⟩ := hm
    simp only [resL] at he
    split at he
    · rename_i d m hd hr
      simp only [Option.some.injEq] at he
      subst he
      obtain ⟨vs, h1, h2, h3⟩ := run_results hs hf hm hr
      simp only [res1] at hd
      split at hd
      · rename_i id p heq
        have hrel := hf.rel b
        rw [heq] at hrel
        obtain ⟨ad, u, q1, q2, q3⟩ := ld_var hT hs hrel hd
        refine ⟨u :: vs, ?_, by simp [h2], fun j v d hv hd => ?_⟩
        · have qa : (asAddr (a.tmps.getD b undef)).run P w = .ok ad w := by rw [q1]; rfl
          simp only [List.mapM_cons, resF, Sem.run_bind, qa, Sem.run_pure, Result.andThen, q2, h1]
        · cases j with
          | zero => simp at hv hd; subst hv hd; exact q3
          | succ j => exact h3 j v d (by simpa using hv) (by simpa using hd)
      · cases hd
    · cases he

theorem run_res {fn : Func} {f : Fn} {l : List D} (hs : Sim dp F G w S) (hf : Fr dp F G w a fr) (hm : mRes P fn.results.toList f.res = true) (he : resL fr S f.res = some l) :
    ∃ v, (results fn a.tmps).run P w = .ok v w ∧ Rel dp F G w v (resD l) := by
  obtain ⟨vs, h1, h2, h3⟩ := run_results hs hf hm he
  have hmap : (fn.results.mapM (resF a)).run P w = .ok vs.toArray w := by
    rw [Array.mapM_eq_mapM_toList, Sem.run_map, h1]
    rfl
  refine ⟨if h : vs.toArray.size = 1 then vs.toArray[0] else .tuple vs.toArray, ?_, ?_⟩
  · rw [results_eq, Sem.run_bind, hmap]
    rfl
  · by_cases h : vs.length = 1
    · match vs, l, h, h2 with
      | [v], [d], _, _ =>
        simp [resD]
        exact h3 0 v d rfl rfl
    · rw [dif_neg (by simpa using h)]
      have : resD l = .tup l := by
        match l, h2 with
        | [], _ => rfl
        | [d], h2 => exact absurd h2 (by simpa using h)
        | _ :: _ :: _, _ => rfl
      rw [this]
      exact .tup _ _ (by simpa using h2) fun j v d hv hd => h3 j v d (by simpa using hv) hd

theorem fget_append (l m : List D) (t : Nat) : fget (l ++ m) t = if t < l.length then fget l t else fget m (t - l.length) := by
  induction l generalizing t with
  | nil => simp
  | cons x l ih =>
    cases t with
    | zero => simp [fget]
    | succ t =>
      simp only [List.cons_append, fget, ih, List.length_cons]
      by_cases h : t < l.length
      · rw [if_pos h, if_pos (by omega)]
      · rw [if_neg h, if_neg (by omega)]; congr 1; omega

theorem fget_rep (n t : Nat) : fget (List.replicate n D.top) t = .top := by
  induction n generalizing t with
  | zero => rfl
  | succ n ih =>
    cases t with
    | zero => rfl
    | succ t => simp only [List.replicate_succ, fget, ih]

theorem call_ok (hfol : P.follows .mixedOrders = true) (hgood : Good P dp) : ∀ n, CallOk P dp (callN dp n) := by
  have hen := hgood.enter
  intro n
  induction n with
  | zero =>
    intro g f args S r S' _ he
    cases he
  | succ n ih =>
    intro g f args S r S' hg he F G w vs hs hv R hR
    simp only [callN, hg] at he
    split at he
    · rename_i hnp
      have hm := hgood g f hg
      unfold mFn at hm
      split at hm
      · rename_i fn hfn
        simp only [Bool.and_eq_true, beq_iff_eq] at hm
        obtain ⟨⟨⟨_, hnt⟩, hres⟩, hbody⟩ := hm
        split at hbody
        · rename_i code hcode
          refine calls_of_wp hfn hcode ?_
          have hfr : Fr dp F G w { tmps := vs ++ Array.replicate (fn.ntmps - vs.size) undef, defers := [] } (frame0 f args) := by
            refine ⟨?_, fun t => ?_⟩
            · simp [frame0, hv.1, hnt, hnp.1]
            · simp only [frame0, fget_append]
              by_cases ht : t < args.length
              · rw [if_pos ht]
                have ht' : t < vs.size := by rw [hv.1]; exact ht
                have e1 : (vs ++ Array.replicate (fn.ntmps - vs.size) undef).getD t undef = vs[t] := by
                  simp [Array.getElem?_append, ht']
                rw [e1, fget_getElem args t args[t] (List.getElem?_eq_getElem ht)]
                exact hv.2 t _ _ (Array.getElem?_eq_getElem ht') (List.getElem?_eq_getElem ht)
              · rw [if_neg ht, fget_rep]
                exact .top _
          have fin : ∀ (fr' : List D) (S1 : Store) (l : List D), resL fr' S1 f.res = some l → r = resD l → S' = S1 → ∀ a' w' F' G', Sim dp F' G' w' S1 → Ext F G w S F' G' w' S1 → Fr dp F' G' w' a' fr' → a'.defers = [] →
              a'.defers = [] ∧ ∃ v, (results fn a'.tmps).run P w' = .ok v w' ∧ R (.returned v) w' := by
            intro fr' S1 l h1 h2 h3 a' w' F' G' k1 k2 k3 k4
            subst h2 h3
            obtain ⟨v, q1, q2⟩ := run_res k1 k3 hres h1
            exact ⟨k4, v, q1, hR v w' F' G' k1 k2 q2⟩
          unfold finish at he
          split at he
          · rename_i fr' S1 hex
            cases hl : resL fr' S1 f.res with
            | none => simp [hl] at he
            | some l =>
              simp only [hl, Option.map_some, Option.some.injEq, Prod.mk.injEq] at he
              exact ok_code hfol ih hen n f.body code hbody hex hs hfr fun a' w' F' G' k1 k2 k3 k4 => fin fr' S1 l hl he.1.symm he.2.symm a' w' F' G' k1 k2 k3 k4
          · rename_i fr' S1 hex
            cases hl : resL fr' S1 f.res with
            | none => simp [hl] at he
            | some l =>
              simp only [hl, Option.map_some, Option.some.injEq, Prod.mk.injEq] at he
              exact ok_code hfol ih hen n f.body code hbody hex hs hfr fun a' w' F' G' k1 k2 k3 k4 => fin fr' S1 l hl he.1.symm he.2.symm a' w' F' G' k1 k2 k3 k4
          · cases he
        · cases hbody
      · cases hm
    · cases he

/-- What the evaluator says of a call, the program does. -/
theorem call_sound (hfol : P.follows .mixedOrders = true) (hgood : Good P dp) : CallOk P dp (call dp) := by
  intro g f args S r S' hg he
  obtain ⟨n, hn⟩ := (call_iff g args S (r, S')).1 he
  exact call_ok hfol hgood n g f args S r S' hg hn

end

end Go.Proofs.YtjlmeikcfdanmaaGreatDoor.DE

namespace Go.Proofs.YtjlmeikcfdanmaaGreatDoor.DE




/-- lineage/lineagelaw11.BddCanonical -/
def c7_0 : C :=
  .seq (.reg [.o 60 (.bin .lss .num (.t 59) (.t 58))] []) (.seq (.cond (.t 60) .skip (.exit 2)) (.seq (.blk 3 (.seq (.reg [.o 61 (.mv (.t 59)), .o 62 (.ia 2 (.t 57) (.t 59)), .o 63 (.ld 2 true (.t 62)), .o 15 (.alloc [.i .i64 0, .i .i64 0]), .o 14 (.mv (.t 61)), .op none none (.st 2 true (.t 15) (.t 63))] [60, 61, 62, 63]) (.seq (.reg [.o 64 (.mv (.t 12)), .o 65 (.mv (.t 14)), .o 66 (.bin .shr .num (.t 64) (.t 65)), .o 67 (.bin .rem .num (.t 66) (.c (.i .i64 2))), .o 68 (.bin .eql .num (.t 67) (.c (.i .i64 1)))] [14, 64, 65, 66, 67]) (.cond (.t 68) (.reg [.o 69 (.mv (.t 13)), .o 70 (.ld 2 true (.t 15)), .o 71 (.bsl 2 true false [.t 70]), .o 72 (.app 2 false (.t 69) (.t 71)), .o 13 (.mv (.t 72))] [15, 68, 69, 70, 71, 72]) .skip)))) (.reg [.o 73 (.bin .add .num (.t 59) (.c (.i .i64 1))), .o 59 (.mv (.t 73))] [15, 68, 73])))
def c7_r0 : C :=
  .dreg [(0, .o 74 (.mv (.t 11))), (1, .o 75 (.mv (.t 74))), (2, .op (some 76) (some (75, true)) (.ld 3 true (.t 7))), (3, .op (some 77) (some (75, true)) (.mv (.t 13))), (4, .op (some 78) (some (75, true)) (.call 37 true [.t 76, .t 77])), (5, .op (some 79) (some (75, true)) (.ld 3 true (.t 9))), (6, .op (some 80) (some (75, true)) (.mv (.t 13))), (7, .op (some 81) (some (75, true)) (.call 37 true [.t 79, .t 80])), (8, .op (some 82) (some (75, true)) (.bin .eql .bool (.t 78) (.t 81))), (9, .o 83 (.pick (.t 75) (.t 82) (.c (.b false)))), (10, .o 11 (.mv (.t 83)))] [13, 57, 58, 59, 60, 74, 75, 76, 77, 78, 79, 80, 81, 82, 83]
def c7_r1 : C :=
  .reg [.o 54 (.mv (.t 12)), .o 55 (.bin .add .num (.t 54) (.c (.i .i64 1))), .o 12 (.mv (.t 55))] [54, 55]
def c7_1 : C :=
  .seq (.seq (.reg [.o 49 (.mv (.t 12)), .o 50 (.mv (.t 0)), .o 51 (.len false (.t 50)), .o 52 (.bin .shl .num (.c (.i .i64 1)) (.t 51)), .o 53 (.bin .lss .num (.t 49) (.t 52))] [49, 50, 51, 52]) (.cond (.t 53) .skip (.exit 0))) (.seq (.blk 1 (.seq (.reg [.o 56 (.bsl 2 true true []), .o 13 (.mv (.t 56))] [53, 56]) (.seq (.seq (.reg [.o 57 (.mv (.t 0)), .o 58 (.len false (.t 57)), .o 59 (.mv (.c (.i .i64 0)))] []) (.blk 2 (.loop [] c7_0))) c7_r0))) c7_r1)
def c7_r2 : C :=
  .seq (.reg [.o 84 (.ld 3 true (.t 7)), .o 85 (.ld 3 true (.t 9)), .o 86 (.call 34 true [.t 84, .t 85]), .o 87 (.mv (.t 11)), .o 88 (.bin .eql .bool (.t 86) (.t 87)), .o 6 (.mv (.t 88))] [0, 7, 9, 11, 12, 53, 84, 85, 86, 87, 88]) .ret
def c7 : C :=
  (.seq (.reg [.o 6 (.mv (.c (.b false)))] [6]) (.seq (.seq (.reg [.o 16 (.call 10 true []), .o 17 (.un .not (.t 16)), .o 18 (.mv (.t 17)), .op (some 19) (some (18, false)) (.mv (.t 0)), .op (some 20) (some (18, false)) (.call 12 true [.t 19]), .op (some 21) (some (18, false)) (.un .not (.t 20)), .o 22 (.pick (.t 18) (.c (.b true)) (.t 21)), .o 23 (.mv (.t 22)), .op (some 24) (some (23, false)) (.mv (.t 1)), .op (some 25) (some (23, false)) (.mv (.t 2)), .op (some 26) (some (23, false)) (.bsl 1 false false [.t 24, .t 25]), .op (some 27) (some (23, false)) (.call 30 true [.c (.i .i64 40), .t 26]), .op (some 28) (some (23, false)) (.un .not (.t 27)), .o 29 (.pick (.t 23) (.c (.b true)) (.t 28))] [16, 17, 18, 19, 20, 21, 22, 23, 24, 25, 26, 27, 28]) (.cond (.t 29) (.seq (.reg [.o 30 (.call 10 true []), .o 6 (.mv (.t 30))] [0, 1, 2, 29, 30]) .ret) .skip)) (.seq (.reg [.o 32 (.mv (.t 0)), .o 33 (.mv (.t 1)), .o 34 (.call 31 true [.t 32, .t 33, .c (.i .i64 4096)]), .o 31 (.mv (.t 34)), .o 35 (.ext (.t 31) 0), .o 36 (.ext (.t 31) 1), .o 7 (.alloc [.sl 2 true [] .ro, .sl 3 true [] .ro, .i .i64 0]), .op none none (.st 3 true (.t 7) (.t 35)), .o 8 (.mv (.t 36))] [1, 29, 31, 32, 33, 34, 35, 36]) (.seq (.reg [.o 38 (.mv (.t 0)), .o 39 (.mv (.t 2)), .o 40 (.call 31 true [.t 38, .t 39, .c (.i .i64 4096)]), .o 37 (.mv (.t 40)), .o 41 (.ext (.t 37) 0), .o 42 (.ext (.t 37) 1), .o 9 (.alloc [.sl 2 true [] .ro, .sl 3 true [] .ro, .i .i64 0]), .op none none (.st 3 true (.t 9) (.t 41)), .o 10 (.mv (.t 42))] [2, 37, 38, 39, 40, 41, 42]) (.seq (.seq (.reg [.o 43 (.mv (.t 8)), .o 44 (.bin .neq .num (.t 43) (.c (.i .i64 0))), .o 45 (.mv (.t 44)), .op (some 46) (some (45, false)) (.mv (.t 10)), .op (some 47) (some (45, false)) (.bin .neq .num (.t 46) (.c (.i .i64 0))), .o 48 (.pick (.t 45) (.c (.b true)) (.t 47))] [8, 10, 43, 44, 45, 46, 47]) (.cond (.t 48) (.seq (.reg [.o 6 (.mv (.c (.b true)))] [0, 7, 9, 48]) .ret) .skip)) (.seq (.reg [.o 11 (.mv (.c (.b true)))] [48]) (.seq (.seq (.reg [.o 12 (.mv (.c (.i .i64 0)))] []) (.blk 0 (.loop [] c7_1))) c7_r2)))))))
def d7 : Fn := { real := 7, np := 3, nt := 89, res := [.t 6], body := c7 }



/-- lineage/lineagelaw11.awake -/
def c10 : C :=
  (.seq (.reg [.o 0 (.mv (.c (.b false)))] [0]) (.seq (.reg [.o 6 (.call 46 true []), .o 7 (.ia 2 (.t 6) (.c (.i .i64 0))), .o 8 (.ld 2 true (.t 7)), .o 9 (.call 45 true [.t 8]), .o 10 (.call 46 true []), .o 11 (.ia 2 (.t 10) (.c (.i .i64 1))), .o 12 (.ld 2 true (.t 11)), .o 13 (.call 45 true [.t 12]), .o 14 (.call 44 true [.t 9, .t 13]), .o 1 (.mv (.t 14))] [6, 7, 8, 9, 10, 11, 12, 13, 14]) (.seq (.reg [.o 16 (.call 46 true []), .o 17 (.mv (.t 1)), .o 18 (.call 31 true [.t 16, .t 17, .c (.i .i64 9)]), .o 15 (.mv (.t 18)), .o 19 (.ext (.t 15) 0), .o 20 (.ext (.t 15) 1), .o 2 (.alloc [.sl 2 true [] .ro, .sl 3 true [] .ro, .i .i64 0]), .op none none (.st 3 true (.t 2) (.t 19)), .o 3 (.mv (.t 20))] [1, 15, 16, 17, 18, 19, 20]) (.seq (.reg [.o 22 (.ld 3 true (.t 2)), .o 23 (.call 35 true [.t 22]), .o 21 (.mv (.t 23)), .o 24 (.ext (.t 21) 0), .o 25 (.ext (.t 21) 1), .o 4 (.mv (.t 24)), .o 5 (.mv (.t 25))] [21, 22, 23, 24, 25]) (.seq (.dreg [(0, .o 26 (.mv (.t 3))), (1, .o 27 (.bin .eql .num (.t 26) (.c (.i .i64 0)))), (2, .o 28 (.mv (.t 27))), (3, .op (some 29) (some (28, true)) (.mv (.t 5))), (4, .op (some 30) (some (28, true)) (.bin .eql .num (.t 29) (.c (.i .i64 0)))), (5, .o 31 (.pick (.t 28) (.t 30) (.c (.b false)))), (6, .o 32 (.mv (.t 31))), (7, .op (some 33) (some (32, true)) (.ld 3 true (.t 2))), (8, .op (some 34) (some (32, true)) (.call 46 true [])), (9, .op (some 35) (some (32, true)) (.bld [.i .i64 0, .i .i64 0, .i .i64 0] [(0, 1, false, .c (.i .i64 1)), (2, 1, false, .c (.i .i64 1))])), (10, .op (some 36) (some (32, true)) (.bld [.i .i64 0, .i .i64 0, .i .i64 0] [(2, 1, false, .c (.i .i64 2))])), (11, .op (some 37) (some (32, true)) (.bsl 3 true false [.t 35, .t 36])), (12, .op (some 38) (some (32, true)) (.bld [.sl 2 true [] .ro, .sl 3 true [] .ro, .i .i64 0] [(0, 1, false, .t 34), (1, 1, false, .t 37), (2, 1, false, .c (.i .i64 3))])), (13, .op (some 39) (some (32, true)) (.call 17 true [.t 33, .t 38])), (14, .o 40 (.pick (.t 32) (.t 39) (.c (.b false)))), (15, .o 41 (.mv (.t 40))), (16, .op (some 42) (some (41, true)) (.mv (.t 4))), (17, .op (some 43) (some (41, true)) (.call 47 true [.t 42])), (18, .op (some 44) (some (41, true)) (.bin .eql .str (.t 43) (.c (.s [49])))), (19, .o 45 (.pick (.t 41) (.t 44) (.c (.b false)))), (20, .o 0 (.mv (.t 45)))] [2, 3, 4, 5, 26, 27, 28, 29, 30, 31, 32, 33, 34, 35, 36, 37, 38, 39, 40, 41, 42, 43, 44, 45]) .ret)))))
def d10 : Fn := { real := 10, np := 0, nt := 46, res := [.t 0], body := c10 }


/-- lineage/lineagelaw11.short -/
def c12 : C :=
  (.seq (.reg [.o 2 (.mv (.c (.b false)))] [2]) (.seq (.reg [.o 3 (.mv (.t 0)), .o 4 (.len false (.t 3)), .o 5 (.bin .leq .num (.t 4) (.c (.i .i64 7))), .o 2 (.mv (.t 5))] [0, 3, 4, 5]) .ret))
def d12 : Fn := { real := 12, np := 1, nt := 6, res := [.t 2], body := c12 }

/-- lineage/bdd.Terminal -/
def c13 : C :=
  (.seq (.reg [.o 4 (.alloc [.sl 2 true [] .ro, .sl 3 true [] .ro, .i .i64 0])] []) (.seq (.seq (.reg [.o 6 (.mv (.t 0)), .o 7 (.call 48 true [.t 6]), .o 8 (.un .not (.t 7))] [6, 7]) (.cond (.t 8) (.seq (.reg [.o 9 (.bld [.sl 2 true [] .ro, .sl 3 true [] .ro, .i .i64 0] []), .op none none (.st 3 true (.t 4) (.t 9))] [0, 1, 8, 9]) .ret) .skip)) (.seq (.reg [.o 10 (.mv (.t 0)), .o 11 (.call 49 true [.t 10]), .o 12 (.bld [.sl 2 true [] .ro, .sl 3 true [] .ro, .i .i64 0] [(0, 1, false, .t 11)]), .o 5 (.alloc [.sl 2 true [] .ro, .sl 3 true [] .ro, .i .i64 0]), .op none none (.st 3 true (.t 5) (.t 12))] [0, 8, 10, 11, 12]) (.seq (.seq (.reg [.o 13 (.mv (.t 1))] [1]) (.cond (.t 13) (.reg [.o 14 (.fa 2 (.t 5)), .op none none (.st 1 false (.t 14) (.c (.i .i64 1)))] [13, 14]) .skip)) (.seq (.reg [.o 15 (.ld 3 true (.t 5)), .op none none (.st 3 true (.t 4) (.t 15))] [5, 13, 15]) .ret)))))
def d13 : Fn := { real := 13, np := 2, nt := 16, res := [.cell 4 3 true], body := c13 }

/-- lineage/bdd.Variable -/
def c14 : C :=
  (.seq (.reg [.o 3 (.box 2 true (.t 1)), .o 4 (.alloc [.sl 2 true [] .ro, .sl 3 true [] .ro, .i .i64 0]), .o 5 (.mv (.c (.i .i64 0)))] [1, 5]) (.seq (.seq (.reg [.o 7 (.mv (.t 0)), .o 8 (.call 48 true [.t 7]), .o 9 (.un .not (.t 8))] [7, 8]) (.cond (.t 9) (.seq (.reg [.o 10 (.bld [.sl 2 true [] .ro, .sl 3 true [] .ro, .i .i64 0] []), .op none none (.st 3 true (.t 4) (.t 10)), .o 5 (.mv (.c (.i .i64 1)))] [0, 3, 9, 10]) .ret) .skip)) (.seq (.reg [.o 11 (.mv (.t 0)), .o 12 (.ld 2 true (.t 3)), .o 13 (.call 50 true [.t 11, .t 12]), .o 6 (.mv (.t 13))] [3, 9, 11, 12, 13]) (.seq (.seq (.reg [.o 14 (.mv (.t 6)), .o 15 (.bin .lss .num (.t 14) (.c (.i .i64 0)))] [14]) (.cond (.t 15) (.seq (.reg [.o 16 (.bld [.sl 2 true [] .ro, .sl 3 true [] .ro, .i .i64 0] []), .op none none (.st 3 true (.t 4) (.t 16)), .o 5 (.mv (.c (.i .i64 4)))] [0, 6, 15, 16]) .ret) .skip)) (.seq (.reg [.o 17 (.mv (.t 0)), .o 18 (.call 49 true [.t 17]), .o 19 (.mv (.t 6)), .o 20 (.bld [.i .i64 0, .i .i64 0, .i .i64 0] [(0, 1, false, .t 19), (1, 1, false, .c (.i .i64 0)), (2, 1, false, .c (.i .i64 1))]), .o 21 (.bsl 3 true false [.t 20]), .o 22 (.bld [.sl 2 true [] .ro, .sl 3 true [] .ro, .i .i64 0] [(0, 1, false, .t 18), (1, 1, false, .t 21), (2, 1, false, .c (.i .i64 2))]), .op none none (.st 3 true (.t 4) (.t 22)), .o 5 (.mv (.c (.i .i64 0)))] [0, 6, 15, 17, 18, 19, 20, 21, 22]) .ret)))))
def d14 : Fn := { real := 14, np := 2, nt := 23, res := [.cell 4 3 true, .t 5], body := c14 }



/-- lineage/lineageref11.Same -/
def c17_0 : C :=
  .seq (.seq (.reg [.o 28 (.mv (.t 5)), .o 29 (.fa 1 (.t 2)), .o 30 (.ld 1 false (.t 29)), .o 31 (.len false (.t 30)), .o 32 (.bin .lss .num (.t 28) (.t 31))] [28, 29, 30, 31]) (.cond (.t 32) .skip (.exit 0))) (.seq (.blk 1 (.seq (.dreg [(0, .o 35 (.fa 1 (.t 2))), (1, .o 36 (.ld 1 false (.t 35))), (2, .o 37 (.mv (.t 5))), (3, .o 38 (.ia 3 (.t 36) (.t 37))), (4, .o 39 (.ld 3 true (.t 38))), (5, .o 40 (.fa 1 (.t 3))), (6, .o 41 (.ld 1 false (.t 40))), (7, .o 42 (.mv (.t 5))), (8, .o 43 (.ia 3 (.t 41) (.t 42))), (9, .o 44 (.ld 3 true (.t 43))), (10, .o 45 (.bin .neq (.agg [.i, .i, .i]) (.t 39) (.t 44)))] [32, 35, 36, 37, 38, 39, 40, 41, 42, 43, 44]) (.cond (.t 45) (.seq (.reg [.o 4 (.mv (.c (.b false)))] [2, 3, 5, 45]) .ret) .skip))) (.reg [.o 33 (.mv (.t 5)), .o 34 (.bin .add .num (.t 33) (.c (.i .i64 1))), .o 5 (.mv (.t 34))] [33, 34, 45]))
def c17_r0 : C :=
  .seq (.reg [.o 4 (.mv (.c (.b true)))] [2, 3, 5, 32]) .ret
def c17 : C :=
  (.seq (.reg [.o 2 (.box 3 true (.t 0)), .o 3 (.box 3 true (.t 1)), .o 4 (.mv (.c (.b false)))] [0, 1, 4]) (.seq (.seq (.reg [.o 6 (.fa 2 (.t 2)), .o 7 (.ld 1 false (.t 6)), .o 8 (.fa 2 (.t 3)), .o 9 (.ld 1 false (.t 8)), .o 10 (.bin .neq .num (.t 7) (.t 9)), .o 11 (.mv (.t 10)), .op (some 12) (some (11, false)) (.fa 0 (.t 2)), .op (some 13) (some (11, false)) (.ld 1 false (.t 12)), .op (some 14) (some (11, false)) (.fa 0 (.t 3)), .op (some 15) (some (11, false)) (.ld 1 false (.t 14)), .op (some 16) (some (11, false)) (.call 52 true [.t 13, .t 15]), .op (some 17) (some (11, false)) (.un .not (.t 16)), .o 18 (.pick (.t 11) (.c (.b true)) (.t 17)), .o 19 (.mv (.t 18)), .op (some 20) (some (19, false)) (.fa 1 (.t 2)), .op (some 21) (some (19, false)) (.ld 1 false (.t 20)), .op (some 22) (some (19, false)) (.len false (.t 21)), .op (some 23) (some (19, false)) (.fa 1 (.t 3)), .op (some 24) (some (19, false)) (.ld 1 false (.t 23)), .op (some 25) (some (19, false)) (.len false (.t 24)), .op (some 26) (some (19, false)) (.bin .neq .num (.t 22) (.t 25)), .o 27 (.pick (.t 19) (.c (.b true)) (.t 26))] [6, 7, 8, 9, 10, 11, 12, 13, 14, 15, 16, 17, 18, 19, 20, 21, 22, 23, 24, 25, 26]) (.cond (.t 27) (.seq (.reg [.o 4 (.mv (.c (.b false)))] [2, 3, 27]) .ret) .skip)) (.seq (.seq (.reg [.o 5 (.mv (.c (.i .i64 0)))] [27]) (.blk 0 (.loop [] c17_0))) c17_r0)))
def d17 : Fn := { real := 17, np := 2, nt := 46, res := [.t 4], body := c17 }




/-- lineage/bdd.And -/
def c21 : C :=
  (.seq (.reg [.o 2 (.box 3 true (.t 0)), .o 3 (.box 3 true (.t 1)), .o 4 (.alloc [.sl 2 true [] .ro, .sl 3 true [] .ro, .i .i64 0]), .o 5 (.mv (.c (.i .i64 0)))] [0, 1, 5]) (.seq (.reg [.o 6 (.ld 3 true (.t 2)), .o 7 (.ld 3 true (.t 3)), .o 8 (.call 54 true [.t 6, .t 7, .c (.i .i64 0)]), .o 9 (.ext (.t 8) 0), .o 10 (.ext (.t 8) 1), .op none none (.st 3 true (.t 4) (.t 9)), .o 5 (.mv (.t 10))] [2, 3, 6, 7, 8, 9, 10]) .ret))
def d21 : Fn := { real := 21, np := 2, nt := 11, res := [.cell 4 3 true, .t 5], body := c21 }

/-- lineage/bdd.Or -/
def c22 : C :=
  (.seq (.reg [.o 2 (.box 3 true (.t 0)), .o 3 (.box 3 true (.t 1)), .o 4 (.alloc [.sl 2 true [] .ro, .sl 3 true [] .ro, .i .i64 0]), .o 5 (.mv (.c (.i .i64 0)))] [0, 1, 5]) (.seq (.reg [.o 6 (.ld 3 true (.t 2)), .o 7 (.ld 3 true (.t 3)), .o 8 (.call 54 true [.t 6, .t 7, .c (.i .i64 1)]), .o 9 (.ext (.t 8) 0), .o 10 (.ext (.t 8) 1), .op none none (.st 3 true (.t 4) (.t 9)), .o 5 (.mv (.t 10))] [2, 3, 6, 7, 8, 9, 10]) .ret))
def d22 : Fn := { real := 22, np := 2, nt := 11, res := [.cell 4 3 true, .t 5], body := c22 }

/-- lineage/bdd.Not -/
def c23_0 : C :=
  .seq (.reg [.o 23 (.bin .lss .num (.t 22) (.t 21))] []) (.seq (.cond (.t 23) .skip (.exit 0)) (.seq (.blk 1 (.seq (.reg [.o 24 (.ia 3 (.t 20) (.t 22)), .o 25 (.ld 3 true (.t 24)), .o 6 (.alloc [.i .i64 0, .i .i64 0, .i .i64 0]), .op none none (.st 3 true (.t 6) (.t 25))] [23, 24, 25]) (.dreg [(0, .o 26 (.fa 1 (.t 4))), (1, .o 27 (.ld 1 false (.t 26))), (2, .o 28 (.fa 0 (.t 6))), (3, .o 29 (.ld 1 false (.t 28))), (4, .o 30 (.mv (.t 3))), (5, .o 31 (.fa 1 (.t 6))), (6, .o 32 (.ld 1 false (.t 31))), (7, .o 33 (.calld (.t 30) true [.t 32])), (8, .o 34 (.mv (.t 3))), (9, .o 35 (.fa 2 (.t 6))), (10, .o 36 (.ld 1 false (.t 35))), (11, .o 37 (.calld (.t 34) true [.t 36])), (12, .o 38 (.bld [.i .i64 0, .i .i64 0, .i .i64 0] [(0, 1, false, .t 29), (1, 1, false, .t 33), (2, 1, false, .t 37)])), (13, .o 39 (.bsl 3 true false [.t 38])), (14, .o 40 (.app 3 false (.t 27) (.t 39))), (15, .o 41 (.fa 1 (.t 4))), (16, .op none none (.st 1 false (.t 41) (.t 40)))] [6, 26, 27, 28, 29, 30, 31, 32, 33, 34, 35, 36, 37, 38, 39, 40, 41]))) (.reg [.o 42 (.bin .add .num (.t 22) (.c (.i .i64 1))), .o 22 (.mv (.t 42))] [42])))
def c23_r0 : C :=
  .seq (.reg [.o 43 (.ld 3 true (.t 4)), .op none none (.st 3 true (.t 2) (.t 43))] [3, 4, 20, 21, 22, 23, 43]) .ret
def c23 : C :=
  (.seq (.reg [.o 1 (.box 3 true (.t 0)), .o 2 (.alloc [.sl 2 true [] .ro, .sl 3 true [] .ro, .i .i64 0])] [0]) (.seq (.seq (.reg [.o 7 (.ld 3 true (.t 1)), .o 8 (.call 33 true [.t 7]), .o 9 (.un .not (.t 8))] [7, 8]) (.cond (.t 9) (.seq (.reg [.o 10 (.bld [.sl 2 true [] .ro, .sl 3 true [] .ro, .i .i64 0] []), .op none none (.st 3 true (.t 2) (.t 10))] [1, 9, 10]) .ret) .skip)) (.seq (.reg [.o 3 (.mv (.c (.fn 55 [])))] [9]) (.seq (.dreg [(0, .o 11 (.fa 0 (.t 1))), (1, .o 12 (.ld 1 false (.t 11))), (2, .o 13 (.call 49 true [.t 12])), (3, .o 14 (.mv (.t 3))), (4, .o 15 (.fa 2 (.t 1))), (5, .o 16 (.ld 1 false (.t 15))), (6, .o 17 (.calld (.t 14) true [.t 16])), (7, .o 18 (.bld [.sl 2 true [] .ro, .sl 3 true [] .ro, .i .i64 0] [(0, 1, false, .t 13), (2, 1, false, .t 17)])), (8, .o 4 (.alloc [.sl 2 true [] .ro, .sl 3 true [] .ro, .i .i64 0])), (1, .ck 12 (.ld 1 false (.t 11))), (5, .ck 16 (.ld 1 false (.t 15))), (9, .op none none (.st 3 true (.t 4) (.t 18)))] [11, 12, 13, 14, 15, 16, 17, 18]) (.seq (.seq (.reg [.o 19 (.fa 1 (.t 1)), .o 20 (.ld 1 false (.t 19)), .o 21 (.len false (.t 20)), .o 22 (.mv (.c (.i .i64 0)))] [1, 19]) (.blk 0 (.loop [] c23_0))) c23_r0)))))
def d23 : Fn := { real := 23, np := 1, nt := 44, res := [.cell 2 3 true], body := c23 }







/-- lineage/lineageref05.Few -/
def c30_0 : C :=
  .seq (.seq (.reg [.o 6 (.mv (.t 5)), .o 7 (.mv (.t 1)), .o 8 (.len false (.t 7)), .o 9 (.bin .lss .num (.t 6) (.t 8))] [6, 7, 8]) (.cond (.t 9) .skip (.exit 0))) (.seq (.blk 1 (.seq (.reg [.o 12 (.mv (.t 1)), .o 13 (.mv (.t 5)), .o 14 (.ia 1 (.t 12) (.t 13)), .o 15 (.ld 1 false (.t 14)), .o 16 (.mv (.t 0)), .o 17 (.call 59 true [.t 15, .t 16, .c (.i .i64 12)]), .o 18 (.mv (.t 0)), .o 19 (.bin .gtr .num (.t 17) (.t 18))] [9, 12, 13, 14, 15, 16, 17, 18]) (.cond (.t 19) (.seq (.reg [.o 4 (.mv (.c (.b false)))] [0, 1, 5, 19]) .ret) .skip))) (.reg [.o 10 (.mv (.t 5)), .o 11 (.bin .add .num (.t 10) (.c (.i .i64 1))), .o 5 (.mv (.t 11))] [10, 11, 19]))
def c30_r0 : C :=
  .seq (.reg [.o 4 (.mv (.c (.b true)))] [0, 1, 5, 9]) .ret
def c30 : C :=
  (.seq (.reg [.o 4 (.mv (.c (.b false)))] [4]) (.seq (.seq (.reg [.o 5 (.mv (.c (.i .i64 0)))] []) (.blk 0 (.loop [] c30_0))) c30_r0))
def d30 : Fn := { real := 30, np := 2, nt := 20, res := [.t 4], body := c30 }

/-- lineage/bdd.Build -/
def c31 : C :=
  (.seq (.reg [.o 3 (.box 1 false (.t 0)), .o 6 (.alloc [.sl 2 true [] .ro, .sl 3 true [] .ro, .i .i64 0]), .o 7 (.mv (.c (.i .i64 0)))] [0, 7]) (.seq (.blk 0 (.seq (.reg [.o 9 (.ld 1 false (.t 3)), .o 10 (.call 48 true [.t 9]), .o 11 (.un .not (.t 10)), .o 12 (.mv (.t 11)), .op (some 13) (some (12, false)) (.mv (.t 1)), .op (some 14) (some (12, false)) (.call 60 true [.t 13]), .op (some 15) (some (12, false)) (.un .not (.t 14)), .o 16 (.pick (.t 12) (.c (.b true)) (.t 15)), .o 17 (.mv (.t 16)), .op (some 18) (some (17, false)) (.mv (.t 2)), .op (some 19) (some (17, false)) (.bin .lss .num (.t 18) (.c (.i .i64 0))), .o 20 (.pick (.t 17) (.c (.b true)) (.t 19)), .o 8 (.mv (.t 20))] [9, 10, 11, 12, 13, 14, 15, 16, 17, 18, 19, 20]) (.cond (.t 8) (.seq (.reg [.o 21 (.bld [.sl 2 true [] .ro, .sl 3 true [] .ro, .i .i64 0] []), .op none none (.st 3 true (.t 6) (.t 21)), .o 7 (.mv (.c (.i .i64 1)))] [1, 2, 3, 8, 21]) .ret) (.seq (.reg [.o 23 (.mv (.t 1)), .o 24 (.call 61 true [.t 23]), .o 22 (.mv (.t 24))] [8, 23, 24]) (.cond (.t 22) (.seq (.reg [.o 25 (.bld [.sl 2 true [] .ro, .sl 3 true [] .ro, .i .i64 0] []), .op none none (.st 3 true (.t 6) (.t 25)), .o 7 (.mv (.c (.i .i64 13)))] [1, 2, 3, 22, 25]) .ret) (.seq (.reg [.o 27 (.mv (.t 1)), .o 28 (.call 63 true [.t 27]), .o 29 (.mkfn 64 [.t 3]), .o 30 (.call 62 false [.t 28, .t 29]), .o 26 (.mv (.t 30))] [22, 27, 28, 29, 30]) (.cond (.t 26) (.seq (.reg [.o 31 (.bld [.sl 2 true [] .ro, .sl 3 true [] .ro, .i .i64 0] []), .op none none (.st 3 true (.t 6) (.t 31)), .o 7 (.mv (.c (.i .i64 4)))] [1, 2, 3, 26, 31]) .ret) .skip))))))) (.seq (.reg [.o 32 (.ld 1 false (.t 3)), .o 33 (.mv (.t 2)), .o 34 (.bld [.sl 2 true [] .ro, .i .i64 0] [(0, 1, false, .t 32), (1, 1, false, .t 33)]), .o 35 (.mv (.t 1)), .o 36 (.call 66 true [.t 34, .t 35]), .o 37 (.ext (.t 36) 0), .o 38 (.ext (.t 36) 1), .op none none (.st 3 true (.t 6) (.t 37)), .o 7 (.mv (.t 38))] [1, 2, 3, 26, 32, 33, 34, 35, 36, 37, 38]) .ret)))
def d31 : Fn := { real := 31, np := 3, nt := 39, res := [.cell 6 3 true, .t 7], body := c31 }


/-- lineage/bdd.Valid -/
def c33 : C :=
  (.seq (.reg [.o 1 (.box 3 true (.t 0)), .o 2 (.mv (.c (.b false)))] [0, 2]) (.seq (.seq (.reg [.o 4 (.fa 0 (.t 1)), .o 5 (.ld 1 false (.t 4)), .o 6 (.call 48 true [.t 5]), .o 7 (.un .not (.t 6)), .o 8 (.mv (.t 7)), .op (some 9) (some (8, false)) (.fa 1 (.t 1)), .op (some 10) (some (8, false)) (.ld 1 false (.t 9)), .op (some 11) (some (8, false)) (.len false (.t 10)), .op (some 12) (some (8, false)) (.bin .gtr .num (.t 11) (.c (.i .i64 4096))), .o 13 (.pick (.t 8) (.c (.b true)) (.t 12)), .o 14 (.mv (.t 13)), .op (some 15) (some (14, false)) (.ld 3 true (.t 1)), .op (some 16) (some (14, false)) (.call 71 true [.t 15]), .op (some 17) (some (14, false)) (.un .not (.t 16)), .o 18 (.pick (.t 14) (.c (.b true)) (.t 17))] [4, 5, 6, 7, 8, 9, 10, 11, 12, 13, 14, 15, 16, 17]) (.cond (.t 18) (.seq (.reg [.o 2 (.mv (.c (.b false)))] [1, 18]) .ret) .skip)) (.seq (.reg [.o 19 (.fa 0 (.t 1)), .o 20 (.ld 1 false (.t 19)), .o 21 (.fa 1 (.t 1)), .o 22 (.ld 1 false (.t 21)), .o 23 (.fa 2 (.t 1)), .o 24 (.ld 1 false (.t 23)), .o 25 (.call 72 true [.t 20, .t 22, .t 24]), .o 3 (.alloc [.sl 2 true [] .ro, .sl 3 true [] .ro, .i .i64 0]), .op none none (.st 3 true (.t 3) (.t 25))] [18, 19, 20, 21, 22, 23, 24, 25]) (.seq (.reg [.o 26 (.fa 2 (.t 3)), .o 27 (.ld 1 false (.t 26)), .o 28 (.fa 2 (.t 1)), .o 29 (.ld 1 false (.t 28)), .o 30 (.bin .eql .num (.t 27) (.t 29)), .o 31 (.mv (.t 30)), .op (some 32) (some (31, true)) (.fa 1 (.t 3)), .op (some 33) (some (31, true)) (.ld 1 false (.t 32)), .op (some 34) (some (31, true)) (.fa 1 (.t 1)), .op (some 35) (some (31, true)) (.ld 1 false (.t 34)), .op (some 36) (some (31, true)) (.call 73 true [.t 33, .t 35]), .o 37 (.pick (.t 31) (.t 36) (.c (.b false))), .o 2 (.mv (.t 37))] [1, 3, 26, 27, 28, 29, 30, 31, 32, 33, 34, 35, 36, 37]) .ret))))
def d33 : Fn := { real := 33, np := 1, nt := 38, res := [.t 2], body := c33 }

/-- lineage/bdd.Equal -/
def c34 : C :=
  (.seq (.reg [.o 2 (.box 3 true (.t 0)), .o 3 (.box 3 true (.t 1)), .o 4 (.mv (.c (.b false)))] [0, 1, 4]) (.seq (.reg [.o 5 (.ld 3 true (.t 2)), .o 6 (.call 33 true [.t 5]), .o 7 (.mv (.t 6)), .op (some 8) (some (7, true)) (.fa 2 (.t 2)), .op (some 9) (some (7, true)) (.ld 1 false (.t 8)), .op (some 10) (some (7, true)) (.fa 2 (.t 3)), .op (some 11) (some (7, true)) (.ld 1 false (.t 10)), .op (some 12) (some (7, true)) (.bin .eql .num (.t 9) (.t 11)), .o 13 (.pick (.t 7) (.t 12) (.c (.b false))), .o 14 (.mv (.t 13)), .op (some 15) (some (14, true)) (.fa 0 (.t 2)), .op (some 16) (some (14, true)) (.ld 1 false (.t 15)), .op (some 17) (some (14, true)) (.fa 0 (.t 3)), .op (some 18) (some (14, true)) (.ld 1 false (.t 17)), .op (some 19) (some (14, true)) (.call 74 true [.t 16, .t 18]), .o 20 (.pick (.t 14) (.t 19) (.c (.b false))), .o 21 (.mv (.t 20)), .op (some 22) (some (21, true)) (.fa 1 (.t 2)), .op (some 23) (some (21, true)) (.ld 1 false (.t 22)), .op (some 24) (some (21, true)) (.fa 1 (.t 3)), .op (some 25) (some (21, true)) (.ld 1 false (.t 24)), .op (some 26) (some (21, true)) (.call 73 true [.t 23, .t 25]), .o 27 (.pick (.t 21) (.t 26) (.c (.b false))), .o 4 (.mv (.t 27))] [2, 3, 5, 6, 7, 8, 9, 10, 11, 12, 13, 14, 15, 16, 17, 18, 19, 20, 21, 22, 23, 24, 25, 26, 27]) .ret))
def d34 : Fn := { real := 34, np := 2, nt := 28, res := [.t 4], body := c34 }

/-- lineage/bdd.Models -/
def c35_0 : C :=
  .seq (.reg [.o 22 (.bin .lss .num (.t 21) (.t 20))] []) (.seq (.cond (.t 22) .skip (.exit 0)) (.seq (.blk 1 (.seq (.reg [.o 23 (.ia 3 (.t 19) (.t 21)), .o 24 (.ld 3 true (.t 23)), .o 6 (.alloc [.i .i64 0, .i .i64 0, .i .i64 0]), .op none none (.st 3 true (.t 6) (.t 24))] [22, 23, 24]) (.seq (.dreg [(0, .o 26 (.mv (.t 4))), (1, .o 27 (.fa 1 (.t 6))), (2, .o 28 (.ld 1 false (.t 27))), (3, .o 29 (.ia 1 (.t 26) (.t 28))), (4, .o 30 (.ld 1 false (.t 29))), (5, .o 31 (.ld 3 true (.t 1))), (6, .o 32 (.fa 1 (.t 6))), (7, .o 33 (.ld 1 false (.t 32))), (8, .o 34 (.call 77 true [.t 31, .t 33])), (9, .o 35 (.fa 0 (.t 6))), (10, .o 36 (.ld 1 false (.t 35))), (11, .o 37 (.bin .sub .num (.t 34) (.t 36))), (12, .o 38 (.bin .sub .num (.t 37) (.c (.i .i64 1)))), (13, .o 39 (.call 76 true [.t 30, .t 38])), (14, .o 25 (.mv (.t 39))), (15, .o 40 (.ext (.t 25) 0)), (16, .o 41 (.ext (.t 25) 1)), (17, .o 7 (.mv (.t 40))), (18, .o 8 (.mv (.t 41)))] [8, 25, 26, 27, 28, 29, 30, 31, 32, 33, 34, 35, 36, 37, 38, 39, 40, 41]) (.seq (.dreg [(0, .o 43 (.mv (.t 4))), (1, .o 44 (.fa 2 (.t 6))), (2, .o 45 (.ld 1 false (.t 44))), (3, .o 46 (.ia 1 (.t 43) (.t 45))), (4, .o 47 (.ld 1 false (.t 46))), (5, .o 48 (.ld 3 true (.t 1))), (6, .o 49 (.fa 2 (.t 6))), (7, .o 50 (.ld 1 false (.t 49))), (8, .o 51 (.call 77 true [.t 48, .t 50])), (9, .o 52 (.fa 0 (.t 6))), (10, .o 53 (.ld 1 false (.t 52))), (11, .o 54 (.bin .sub .num (.t 51) (.t 53))), (12, .o 55 (.bin .sub .num (.t 54) (.c (.i .i64 1)))), (13, .o 56 (.call 76 true [.t 47, .t 55])), (14, .o 42 (.mv (.t 56))), (15, .o 57 (.ext (.t 42) 0)), (16, .o 58 (.ext (.t 42) 1)), (17, .o 9 (.mv (.t 57))), (18, .o 10 (.mv (.t 58)))] [6, 10, 42, 43, 44, 45, 46, 47, 48, 49, 50, 51, 52, 53, 54, 55, 56, 57, 58]) (.seq (.reg [.o 60 (.mv (.t 7)), .o 61 (.mv (.t 9)), .o 62 (.call 78 true [.t 60, .t 61]), .o 59 (.mv (.t 62)), .o 63 (.ext (.t 59) 0), .o 64 (.ext (.t 59) 1), .o 11 (.mv (.t 63)), .o 12 (.mv (.t 64))] [7, 9, 12, 59, 60, 61, 62, 63, 64]) (.reg [.o 65 (.mv (.t 4)), .o 66 (.mv (.t 11)), .o 67 (.bsl 1 false false [.t 66]), .o 68 (.app 1 false (.t 65) (.t 67)), .o 4 (.mv (.t 68))] [11, 65, 66, 67, 68])))))) (.reg [.o 69 (.bin .add .num (.t 21) (.c (.i .i64 1))), .o 21 (.mv (.t 69))] [69])))
def c35_r0 : C :=
  .seq (.dreg [(0, .o 70 (.mv (.t 4))), (1, .o 71 (.fa 2 (.t 1))), (2, .o 72 (.ld 1 false (.t 71))), (3, .o 73 (.ia 1 (.t 70) (.t 72))), (4, .o 74 (.ld 1 false (.t 73))), (5, .o 75 (.ld 3 true (.t 1))), (6, .o 76 (.fa 2 (.t 1))), (7, .o 77 (.ld 1 false (.t 76))), (8, .o 78 (.call 77 true [.t 75, .t 77])), (9, .o 79 (.call 76 true [.t 74, .t 78])), (10, .o 80 (.ext (.t 79) 0)), (11, .o 81 (.ext (.t 79) 1)), (12, .o 2 (.mv (.t 80))), (13, .o 3 (.mv (.t 81)))] [1, 4, 19, 20, 21, 22, 70, 71, 72, 73, 74, 75, 76, 77, 78, 79, 80, 81]) .ret
def c35 : C :=
  (.seq (.reg [.o 1 (.box 3 true (.t 0)), .o 2 (.mv (.c (.sl 1 true [] .ro))), .o 3 (.mv (.c (.i .i64 0)))] [0, 2, 3]) (.seq (.seq (.reg [.o 13 (.ld 3 true (.t 1)), .o 14 (.call 33 true [.t 13]), .o 15 (.un .not (.t 14))] [13, 14]) (.cond (.t 15) (.seq (.reg [.o 2 (.mv (.c (.sl 1 true [] .ro))), .o 3 (.mv (.c (.i .i64 1)))] [1, 15]) .ret) .skip)) (.seq (.reg [.o 16 (.call 75 true [.c (.i .u64 1)]), .o 17 (.bsl 1 false true [.c (.sl 1 true [] .ro), .t 16]), .o 4 (.mv (.t 17))] [15, 16, 17]) (.seq (.seq (.reg [.o 18 (.fa 1 (.t 1)), .o 19 (.ld 1 false (.t 18)), .o 20 (.len false (.t 19)), .o 21 (.mv (.c (.i .i64 0)))] [18]) (.blk 0 (.loop [] c35_0))) c35_r0))))
def d35 : Fn := { real := 35, np := 1, nt := 82, res := [.t 2, .t 3], body := c35 }


/-- lineage/bdd.Eval -/
def c37_0 : C :=
  .seq (.seq (.reg [.o 12 (.mv (.t 5)), .o 13 (.bin .geq .num (.t 12) (.c (.i .i64 2)))] [12]) (.cond (.t 13) .skip (.exit 0))) (.blk 1 (.seq (.reg [.o 14 (.fa 1 (.t 2)), .o 15 (.ld 1 false (.t 14)), .o 16 (.mv (.t 5)), .o 17 (.bin .sub .num (.t 16) (.c (.i .i64 2))), .o 18 (.ia 3 (.t 15) (.t 17)), .o 19 (.ld 3 true (.t 18)), .o 6 (.alloc [.i .i64 0, .i .i64 0, .i .i64 0]), .op none none (.st 3 true (.t 6) (.t 19))] [5, 13, 14, 15, 16, 17, 18, 19]) (.seq (.reg [.o 20 (.mv (.t 1)), .o 21 (.fa 0 (.t 2)), .o 22 (.ld 1 false (.t 21)), .o 23 (.fa 0 (.t 6)), .o 24 (.ld 1 false (.t 23)), .o 25 (.ia 2 (.t 22) (.t 24)), .o 26 (.ld 2 true (.t 25)), .o 27 (.call 65 true [.t 20, .t 26])] [20, 21, 22, 23, 24, 25, 26]) (.cond (.t 27) (.reg [.o 28 (.fa 2 (.t 6)), .o 29 (.ld 1 false (.t 28)), .o 5 (.mv (.t 29))] [6, 27, 28, 29]) (.reg [.o 30 (.fa 1 (.t 6)), .o 31 (.ld 1 false (.t 30)), .o 5 (.mv (.t 31))] [6, 27, 30, 31])))))
def c37_r0 : C :=
  .seq (.reg [.o 32 (.mv (.t 5)), .o 33 (.bin .eql .num (.t 32) (.c (.i .i64 1))), .o 4 (.mv (.t 33))] [1, 2, 5, 13, 32, 33]) .ret
def c37 : C :=
  (.seq (.reg [.o 2 (.box 3 true (.t 0)), .o 4 (.mv (.c (.b false)))] [0, 4]) (.seq (.seq (.reg [.o 7 (.ld 3 true (.t 2)), .o 8 (.call 33 true [.t 7]), .o 9 (.un .not (.t 8))] [7, 8]) (.cond (.t 9) (.seq (.reg [.o 4 (.mv (.c (.b false)))] [1, 2, 9]) .ret) .skip)) (.seq (.reg [.o 10 (.fa 2 (.t 2)), .o 11 (.ld 1 false (.t 10)), .o 5 (.mv (.t 11))] [9, 10, 11]) (.seq (.blk 0 (.loop [] c37_0)) c37_r0))))
def d37 : Fn := { real := 37, np := 2, nt := 34, res := [.t 4], body := c37 }







/-- lineage/lineageref05.Product -/
def c44_0 : C :=
  .seq (.seq (.reg [.o 40 (.mv (.t 9)), .o 41 (.mv (.t 1)), .o 42 (.mv (.t 7)), .o 43 (.ia 2 (.t 41) (.t 42)), .o 44 (.fa 1 (.t 43)), .o 45 (.ld 1 false (.t 44)), .o 46 (.len false (.t 45)), .o 47 (.bin .lss .num (.t 40) (.t 46))] [40, 41, 42, 43, 44, 45, 46]) (.cond (.t 47) .skip (.exit 4))) (.seq (.blk 5 (.dreg [(0, .o 50 (.fa 1 (.t 8))), (1, .o 51 (.ld 1 false (.t 50))), (2, .o 52 (.mv (.t 1))), (3, .o 53 (.mv (.t 7))), (4, .o 54 (.ia 2 (.t 52) (.t 53))), (5, .o 55 (.fa 1 (.t 54))), (6, .o 56 (.ld 1 false (.t 55))), (7, .o 57 (.mv (.t 9))), (8, .o 58 (.ia 11 (.t 56) (.t 57))), (9, .o 59 (.ld 11 true (.t 58))), (10, .o 60 (.call 84 true [.t 51, .t 59])), (11, .o 61 (.fa 1 (.t 8))), (12, .op none none (.st 1 false (.t 61) (.t 60)))] [47, 50, 51, 52, 53, 54, 55, 56, 57, 58, 59, 60, 61])) (.reg [.o 48 (.mv (.t 9)), .o 49 (.bin .add .num (.t 48) (.c (.i .i64 1))), .o 9 (.mv (.t 49))] [48, 49]))
def c44_r0 : C :=
  .reg [.o 62 (.mv (.t 5)), .o 63 (.ld 2 true (.t 8)), .o 64 (.call 85 true [.t 62, .t 63]), .o 5 (.mv (.t 64))] [8, 9, 47, 62, 63, 64]
def c44_r1 : C :=
  .reg [.o 21 (.mv (.t 7)), .o 22 (.bin .add .num (.t 21) (.c (.i .i64 1))), .o 7 (.mv (.t 22))] [21, 22]
def c44_1 : C :=
  .seq (.seq (.reg [.o 17 (.mv (.t 7)), .o 18 (.mv (.t 1)), .o 19 (.len false (.t 18)), .o 20 (.bin .lss .num (.t 17) (.t 19))] [17, 18, 19]) (.cond (.t 20) .skip (.exit 2))) (.seq (.blk 3 (.seq (.dreg [(0, .o 23 (.mv (.t 0))), (1, .o 24 (.mv (.t 6))), (2, .o 25 (.ia 2 (.t 23) (.t 24))), (3, .o 26 (.fa 0 (.t 25))), (4, .o 27 (.ld 1 false (.t 26))), (5, .o 28 (.mv (.t 1))), (6, .o 29 (.mv (.t 7))), (7, .o 30 (.ia 2 (.t 28) (.t 29))), (8, .o 31 (.fa 0 (.t 30))), (9, .o 32 (.ld 1 false (.t 31))), (10, .o 33 (.call 83 true [.t 27, .t 32])), (11, .o 34 (.mv (.t 0))), (12, .o 35 (.mv (.t 6))), (13, .o 36 (.ia 2 (.t 34) (.t 35))), (14, .o 37 (.fa 1 (.t 36))), (15, .o 38 (.ld 1 false (.t 37))), (16, .o 39 (.bld [.i .i64 0, .sl 11 true [] .ro] [(0, 1, false, .t 33), (1, 1, false, .t 38)])), (17, .o 8 (.alloc [.i .i64 0, .sl 11 true [] .ro])), (4, .ck 27 (.ld 1 false (.t 26))), (9, .ck 32 (.ld 1 false (.t 31))), (15, .ck 38 (.ld 1 false (.t 37))), (18, .op none none (.st 2 true (.t 8) (.t 39)))] [20, 23, 24, 25, 26, 27, 28, 29, 30, 31, 32, 33, 34, 35, 36, 37, 38, 39]) (.seq (.seq (.reg [.o 9 (.mv (.c (.i .i64 0)))] []) (.blk 4 (.loop [] c44_0))) c44_r0))) c44_r1)
def c44_r2 : C :=
  .reg [.o 15 (.mv (.t 6)), .o 16 (.bin .add .num (.t 15) (.c (.i .i64 1))), .o 6 (.mv (.t 16))] [7, 15, 16, 20]
def c44_2 : C :=
  .seq (.seq (.reg [.o 11 (.mv (.t 6)), .o 12 (.mv (.t 0)), .o 13 (.len false (.t 12)), .o 14 (.bin .lss .num (.t 11) (.t 13))] [11, 12, 13]) (.cond (.t 14) .skip (.exit 0))) (.seq (.blk 1 (.seq (.reg [.o 7 (.mv (.c (.i .i64 0)))] [14]) (.blk 2 (.loop [] c44_1)))) c44_r2)
def c44_r3 : C :=
  .seq (.reg [.o 65 (.mv (.t 5)), .o 4 (.mv (.t 65))] [0, 1, 5, 6, 14, 65]) .ret
def c44 : C :=
  (.seq (.reg [.o 4 (.mv (.c (.sl 2 true [] .ro)))] [4]) (.seq (.reg [.o 10 (.bsl 2 true true []), .o 5 (.mv (.t 10))] [10]) (.seq (.seq (.reg [.o 6 (.mv (.c (.i .i64 0)))] []) (.blk 0 (.loop [] c44_2))) c44_r3)))
def d44 : Fn := { real := 44, np := 2, nt := 66, res := [.t 4], body := c44 }

/-- lineage/lineageref05.Var -/
def c45 : C :=
  (.seq (.reg [.o 1 (.box 2 true (.t 0)), .o 2 (.mv (.c (.sl 2 true [] .ro)))] [0, 2]) (.seq (.seq (.reg [.o 3 (.fa 0 (.t 1)), .o 4 (.ld 1 false (.t 3)), .o 5 (.bin .lss .num (.t 4) (.c (.i .i64 1))), .o 6 (.mv (.t 5)), .op (some 7) (some (6, false)) (.fa 1 (.t 1)), .op (some 8) (some (6, false)) (.ld 1 false (.t 7)), .op (some 9) (some (6, false)) (.bin .lss .num (.t 8) (.c (.i .i64 1))), .o 10 (.pick (.t 6) (.c (.b true)) (.t 9))] [3, 4, 5, 6, 7, 8, 9]) (.cond (.t 10) (.seq (.reg [.o 2 (.mv (.c (.sl 2 true [] .ro)))] [1, 10]) .ret) .skip)) (.seq (.reg [.o 11 (.ld 2 true (.t 1)), .o 12 (.bld [.i .i64 0, .i .i64 0, .i .i64 0, .sl 1 true [] .ro, .i .i64 0, .sl 4 true [] .ro, .i .i64 0, .i .i64 0, .i .i64 0, .s []] [(1, 2, true, .t 11)]), .o 13 (.call 86 true [.t 12]), .o 2 (.mv (.t 13))] [1, 10, 11, 12, 13]) .ret)))
def d45 : Fn := { real := 45, np := 1, nt := 14, res := [.t 2], body := c45 }

/-- lineage/lineagelaw11.rows -/
def c46 : C :=
  (.seq (.reg [.o 0 (.mv (.c (.sl 2 true [] .ro)))] [0]) (.seq (.reg [.o 1 (.bld [.i .i64 0, .i .i64 0] [(0, 1, false, .c (.i .i64 1)), (1, 1, false, .c (.i .i64 1))]), .o 2 (.bld [.i .i64 0, .i .i64 0] [(0, 1, false, .c (.i .i64 1)), (1, 1, false, .c (.i .i64 2))]), .o 3 (.bsl 2 true false [.t 1, .t 2]), .o 0 (.mv (.t 3))] [1, 2, 3]) .ret))
def d46 : Fn := { real := 46, np := 0, nt := 4, res := [.t 0], body := c46 }

/-- lineage/bignat.Format -/
def c47_0 : C :=
  .seq (.seq (.reg [.o 9 (.mv (.t 0)), .o 10 (.len false (.t 9)), .o 11 (.bin .gtr .num (.t 10) (.c (.i .i64 0)))] [9, 10]) (.cond (.t 11) .skip (.exit 0))) (.blk 1 (.seq (.reg [.o 13 (.mv (.t 0)), .o 14 (.call 88 true [.t 13, .c (.i .u32 1000000000)]), .o 12 (.mv (.t 14)), .o 15 (.ext (.t 12) 0), .o 16 (.ext (.t 12) 1), .o 4 (.mv (.t 15)), .o 5 (.mv (.t 16))] [0, 11, 12, 13, 14, 15, 16]) (.seq (.reg [.o 17 (.mv (.t 5)), .o 18 (.conv .u64 (.t 17)), .o 19 (.call 89 true [.t 18, .c (.i .i64 10)]), .o 6 (.mv (.t 19))] [5, 17, 18, 19]) (.seq (.seq (.reg [.o 20 (.mv (.t 4)), .o 21 (.len false (.t 20)), .o 22 (.bin .gtr .num (.t 21) (.c (.i .i64 0)))] [20, 21]) (.cond (.t 22) (.reg [.o 23 (.mv (.t 6)), .o 24 (.len true (.t 23)), .o 25 (.bin .sub .num (.c (.i .i64 9)) (.t 24)), .o 26 (.call 90 true [.c (.s [48]), .t 25]), .o 27 (.mv (.t 6)), .o 28 (.bin .add .str (.t 26) (.t 27)), .o 6 (.mv (.t 28))] [22, 23, 24, 25, 26, 27, 28]) .skip)) (.reg [.o 29 (.mv (.t 6)), .o 30 (.mv (.t 3)), .o 31 (.bin .add .str (.t 29) (.t 30)), .o 32 (.mv (.t 4)), .o 3 (.mv (.t 31)), .o 0 (.mv (.t 32))] [4, 6, 22, 29, 30, 31, 32])))))
def c47_r0 : C :=
  .seq (.reg [.o 33 (.mv (.t 3)), .o 34 (.bsl 1 false false [.t 33, .c (.s [48])]), .o 35 (.call 91 true [.t 34]), .o 2 (.mv (.t 35))] [0, 3, 11, 33, 34, 35]) .ret
def c47 : C :=
  (.seq (.reg [.o 2 (.mv (.c (.s [])))] [2]) (.seq (.reg [.o 7 (.mv (.t 0)), .o 8 (.call 87 true [.t 7]), .o 0 (.mv (.t 8))] [7, 8]) (.seq (.reg [.o 3 (.mv (.c (.s [])))] []) (.seq (.blk 0 (.loop [] c47_0)) c47_r0))))
def d47 : Fn := { real := 47, np := 1, nt := 36, res := [.t 2], body := c47 }

/-- lineage/bdd.validOrder -/
def c48_0 : C :=
  .seq (.reg [.o 10 (.bin .lss .num (.t 9) (.t 8))] []) (.seq (.cond (.t 10) .skip (.exit 0)) (.seq (.blk 1 (.seq (.reg [.o 11 (.ia 2 (.t 7) (.t 9)), .o 12 (.ld 2 true (.t 11)), .o 5 (.alloc [.i .i64 0, .i .i64 0]), .op none none (.st 2 true (.t 5) (.t 12))] [10, 11, 12]) (.seq (.seq (.reg [.o 13 (.ld 2 true (.t 5)), .o 14 (.call 92 true [.t 13]), .o 15 (.un .not (.t 14)), .o 16 (.mv (.t 15)), .op (some 17) (some (16, false)) (.mv (.t 3)), .op (some 18) (some (16, false)) (.ld 2 true (.t 5)), .op (some 19) (some (16, false)) (.lk (.agg [.i, .i]) false (.b false) (.t 17) (.t 18)), .o 20 (.pick (.t 16) (.c (.b true)) (.t 19))] [13, 14, 15, 16, 17, 18, 19]) (.cond (.t 20) (.seq (.reg [.o 2 (.mv (.c (.b false)))] [0, 3, 5, 7, 8, 9, 20]) .ret) .skip)) (.reg [.o 21 (.mv (.t 3)), .o 22 (.ld 2 true (.t 5)), .op none none (.mu (.agg [.i, .i]) (.t 21) (.t 22) (.c (.b true)))] [5, 20, 21, 22])))) (.reg [.o 23 (.bin .add .num (.t 9) (.c (.i .i64 1))), .o 9 (.mv (.t 23))] [23])))
def c48_r0 : C :=
  .seq (.reg [.o 24 (.mv (.t 0)), .o 25 (.len false (.t 24)), .o 26 (.bin .leq .num (.t 25) (.c (.i .i64 4096))), .o 2 (.mv (.t 26))] [0, 3, 7, 8, 9, 10, 24, 25, 26]) .ret
def c48 : C :=
  (.seq (.reg [.o 2 (.mv (.c (.b false)))] [2]) (.seq (.reg [.o 6 (.mkmap), .o 3 (.mv (.t 6))] [6]) (.seq (.seq (.reg [.o 7 (.mv (.t 0)), .o 8 (.len false (.t 7)), .o 9 (.mv (.c (.i .i64 0)))] []) (.blk 0 (.loop [] c48_0))) c48_r0)))
def d48 : Fn := { real := 48, np := 1, nt := 27, res := [.t 2], body := c48 }

/-- slices.Clone[[]lineage/api.RowID,lineage/api.RowID] -/
def c49 : C :=
  (.seq (.reg [.o 2 (.mv (.c (.sl 2 true [] .ro)))] [2]) (.seq (.seq (.reg [.o 3 (.mv (.t 0)), .o 4 (.bin .eql .sl (.t 3) (.c (.sl 2 true [] .ro)))] [3]) (.cond (.t 4) (.seq (.reg [.o 2 (.mv (.c (.sl 2 true [] .ro)))] [0, 4]) .ret) .skip)) (.seq (.reg [.o 5 (.bsl 2 true true []), .o 6 (.mv (.t 0)), .o 7 (.app 2 false (.t 5) (.t 6)), .o 2 (.mv (.t 7))] [0, 4, 5, 6, 7]) .ret)))
def d49 : Fn := { real := 49, np := 1, nt := 8, res := [.t 2], body := c49 }

/-- slices.Index[[]lineage/api.RowID,lineage/api.RowID] -/
def c50_0 : C :=
  .seq (.reg [.o 9 (.bin .lss .num (.t 8) (.t 7))] []) (.seq (.cond (.t 9) .skip (.exit 0)) (.seq (.blk 1 (.seq (.reg [.o 10 (.mv (.t 8)), .o 5 (.mv (.t 10))] [9, 10]) (.seq (.dreg [(0, .o 11 (.ld 2 true (.t 3))), (1, .o 12 (.mv (.t 0))), (2, .o 13 (.mv (.t 5))), (3, .o 14 (.ia 2 (.t 12) (.t 13))), (4, .o 15 (.ld 2 true (.t 14))), (5, .o 16 (.bin .eql (.agg [.i, .i]) (.t 11) (.t 15)))] [11, 12, 13, 14, 15]) (.cond (.t 16) (.seq (.reg [.o 17 (.mv (.t 5)), .o 4 (.mv (.t 17))] [0, 3, 5, 7, 8, 16, 17]) .ret) .skip)))) (.reg [.o 18 (.bin .add .num (.t 8) (.c (.i .i64 1))), .o 8 (.mv (.t 18))] [5, 16, 18])))
def c50_r0 : C :=
  .seq (.reg [.o 4 (.mv (.c (.i .i64 (-1))))] [0, 3, 7, 8, 9]) .ret
def c50 : C :=
  (.seq (.reg [.o 3 (.box 2 true (.t 1)), .o 4 (.mv (.c (.i .i64 0)))] [1, 4]) (.seq (.seq (.reg [.o 6 (.mv (.t 0)), .o 7 (.len false (.t 6)), .o 8 (.mv (.c (.i .i64 0)))] [6]) (.blk 0 (.loop [] c50_0))) c50_r0))
def d50 : Fn := { real := 50, np := 2, nt := 19, res := [.t 4], body := c50 }


/-- lineage/lineageref11.SameOrder -/
def c52_0 : C :=
  .seq (.seq (.reg [.o 11 (.mv (.t 5)), .o 12 (.mv (.t 0)), .o 13 (.len false (.t 12)), .o 14 (.bin .lss .num (.t 11) (.t 13))] [11, 12, 13]) (.cond (.t 14) .skip (.exit 0))) (.seq (.blk 1 (.seq (.dreg [(0, .o 17 (.mv (.t 0))), (1, .o 18 (.mv (.t 5))), (2, .o 19 (.ia 2 (.t 17) (.t 18))), (3, .o 20 (.ld 2 true (.t 19))), (4, .o 21 (.mv (.t 1))), (5, .o 22 (.mv (.t 5))), (6, .o 23 (.ia 2 (.t 21) (.t 22))), (7, .o 24 (.ld 2 true (.t 23))), (8, .o 25 (.bin .neq (.agg [.i, .i]) (.t 20) (.t 24)))] [14, 17, 18, 19, 20, 21, 22, 23, 24]) (.cond (.t 25) (.seq (.reg [.o 4 (.mv (.c (.b false)))] [0, 1, 5, 25]) .ret) .skip))) (.reg [.o 15 (.mv (.t 5)), .o 16 (.bin .add .num (.t 15) (.c (.i .i64 1))), .o 5 (.mv (.t 16))] [15, 16, 25]))
def c52_r0 : C :=
  .seq (.reg [.o 4 (.mv (.c (.b true)))] [0, 1, 5, 14]) .ret
def c52 : C :=
  (.seq (.reg [.o 4 (.mv (.c (.b false)))] [4]) (.seq (.seq (.reg [.o 6 (.mv (.t 0)), .o 7 (.len false (.t 6)), .o 8 (.mv (.t 1)), .o 9 (.len false (.t 8)), .o 10 (.bin .neq .num (.t 7) (.t 9))] [6, 7, 8, 9]) (.cond (.t 10) (.seq (.reg [.o 4 (.mv (.c (.b false)))] [0, 1, 10]) .ret) .skip)) (.seq (.seq (.reg [.o 5 (.mv (.c (.i .i64 0)))] [10]) (.blk 0 (.loop [] c52_0))) c52_r0)))
def d52 : Fn := { real := 52, np := 2, nt := 26, res := [.t 4], body := c52 }


/-- lineage/bdd.combined -/
def c54 : C :=
  (.seq (.reg [.o 3 (.box 3 true (.t 0)), .o 4 (.box 3 true (.t 1)), .o 5 (.box 1 false (.t 2)), .o 6 (.alloc [.sl 2 true [] .ro, .sl 3 true [] .ro, .i .i64 0]), .o 7 (.mv (.c (.i .i64 0)))] [0, 1, 2, 7]) (.seq (.seq (.reg [.o 13 (.ld 3 true (.t 3)), .o 14 (.call 33 true [.t 13]), .o 15 (.un .not (.t 14)), .o 16 (.mv (.t 15)), .op (some 17) (some (16, false)) (.ld 3 true (.t 4)), .op (some 18) (some (16, false)) (.call 33 true [.t 17]), .op (some 19) (some (16, false)) (.un .not (.t 18)), .o 20 (.pick (.t 16) (.c (.b true)) (.t 19)), .o 21 (.mv (.t 20)), .op (some 22) (some (21, false)) (.fa 0 (.t 3)), .op (some 23) (some (21, false)) (.ld 1 false (.t 22)), .op (some 24) (some (21, false)) (.fa 0 (.t 4)), .op (some 25) (some (21, false)) (.ld 1 false (.t 24)), .op (some 26) (some (21, false)) (.call 74 true [.t 23, .t 25]), .op (some 27) (some (21, false)) (.un .not (.t 26)), .o 28 (.pick (.t 21) (.c (.b true)) (.t 27))] [13, 14, 15, 16, 17, 18, 19, 20, 21, 22, 23, 24, 25, 26, 27]) (.cond (.t 28) (.seq (.reg [.o 29 (.bld [.sl 2 true [] .ro, .sl 3 true [] .ro, .i .i64 0] []), .op none none (.st 3 true (.t 6) (.t 29)), .o 7 (.mv (.c (.i .i64 1)))] [3, 4, 5, 28, 29]) .ret) .skip)) (.seq (.reg [.o 8 (.alloc [.sl 3 true [] .ro, .nilm])] [28]) (.seq (.reg [.o 30 (.mkmap), .o 9 (.alloc [.nilm]), .op none none (.st 1 false (.t 9) (.t 30))] [30]) (.seq (.reg [.o 10 (.alloc [.top])] []) (.seq (.reg [.o 31 (.mkfn 94 [.t 5, .t 9, .t 3, .t 4, .t 10, .t 8]), .op none none (.st 1 false (.t 10) (.t 31))] [5, 9, 31]) (.seq (.reg [.o 32 (.ld 1 false (.t 10)), .o 33 (.fa 2 (.t 3)), .o 34 (.ld 1 false (.t 33)), .o 35 (.fa 2 (.t 4)), .o 36 (.ld 1 false (.t 35)), .o 37 (.calld (.t 32) false [.t 34, .t 36]), .o 11 (.mv (.t 37))] [4, 10, 32, 33, 34, 35, 36, 37]) (.seq (.reg [.o 38 (.fa 0 (.t 3)), .o 39 (.ld 1 false (.t 38)), .o 40 (.fa 0 (.t 8)), .o 41 (.ld 1 false (.t 40)), .o 42 (.mv (.t 11)), .o 43 (.call 72 true [.t 39, .t 41, .t 42]), .o 12 (.alloc [.sl 2 true [] .ro, .sl 3 true [] .ro, .i .i64 0]), .op none none (.st 3 true (.t 12) (.t 43))] [3, 8, 11, 38, 39, 40, 41, 42, 43]) (.seq (.seq (.reg [.o 44 (.fa 1 (.t 12)), .o 45 (.ld 1 false (.t 44)), .o 46 (.len false (.t 45)), .o 47 (.bin .gtr .num (.t 46) (.c (.i .i64 4096)))] [44, 45, 46]) (.cond (.t 47) (.seq (.reg [.o 48 (.bld [.sl 2 true [] .ro, .sl 3 true [] .ro, .i .i64 0] []), .op none none (.st 3 true (.t 6) (.t 48)), .o 7 (.mv (.c (.i .i64 6)))] [12, 47, 48]) .ret) .skip)) (.seq (.reg [.o 49 (.ld 3 true (.t 12)), .op none none (.st 3 true (.t 6) (.t 49)), .o 7 (.mv (.c (.i .i64 0)))] [12, 47, 49]) .ret))))))))))
def d54 : Fn := { real := 54, np := 3, nt := 50, res := [.cell 6 3 true, .t 7], body := c54 }

/-- lineage/bdd.Not$1 -/
def c55 : C :=
  (.seq (.reg [.o 2 (.mv (.c (.i .i64 0)))] [2]) (.seq (.seq (.reg [.o 3 (.mv (.t 0)), .o 4 (.bin .lss .num (.t 3) (.c (.i .i64 2)))] [3]) (.cond (.t 4) (.seq (.reg [.o 5 (.mv (.t 0)), .o 6 (.bin .sub .num (.c (.i .i64 1)) (.t 5)), .o 2 (.mv (.t 6))] [0, 4, 5, 6]) .ret) .skip)) (.seq (.reg [.o 7 (.mv (.t 0)), .o 2 (.mv (.t 7))] [0, 4, 7]) .ret)))
def d55 : Fn := { real := 55, np := 1, nt := 8, res := [.t 2], body := c55 }




/-- lineage/lineageref05.weight -/
def c59_0 : C :=
  .seq (.seq (.reg [.o 100 (.mv (.t 12)), .o 101 (.fa 5 (.t 10)), .o 102 (.ld 1 false (.t 101)), .o 103 (.len false (.t 102)), .o 104 (.bin .lss .num (.t 100) (.t 103)), .o 105 (.mv (.t 104)), .op (some 106) (some (105, true)) (.mv (.t 7)), .op (some 107) (some (105, true)) (.mv (.t 1)), .op (some 108) (some (105, true)) (.bin .leq .num (.t 106) (.t 107)), .o 109 (.pick (.t 105) (.t 108) (.c (.b false)))] [100, 101, 102, 103, 104, 105, 106, 107, 108]) (.cond (.t 109) .skip (.exit 6))) (.seq (.blk 7 (.dreg [(0, .o 112 (.mv (.t 7))), (1, .o 113 (.fa 5 (.t 10))), (2, .o 114 (.ld 1 false (.t 113))), (3, .o 115 (.mv (.t 12))), (4, .o 116 (.ia 4 (.t 114) (.t 115))), (5, .o 117 (.fa 0 (.t 116))), (6, .o 118 (.fa 2 (.t 117))), (7, .o 119 (.ld 1 false (.t 118))), (8, .o 120 (.len true (.t 119))), (9, .o 121 (.bin .add .num (.t 112) (.t 120))), (10, .o 122 (.fa 5 (.t 10))), (11, .o 123 (.ld 1 false (.t 122))), (12, .o 124 (.mv (.t 12))), (13, .o 125 (.ia 4 (.t 123) (.t 124))), (14, .o 126 (.fa 3 (.t 125))), (15, .o 127 (.ld 1 false (.t 126))), (16, .o 128 (.mv (.t 1))), (17, .o 129 (.mv (.t 7))), (18, .o 130 (.bin .sub .num (.t 128) (.t 129))), (19, .o 131 (.mv (.t 2))), (20, .o 132 (.bin .sub .num (.t 131) (.c (.i .i64 1)))), (21, .o 133 (.call 59 true [.t 127, .t 130, .t 132])), (22, .o 134 (.bin .add .num (.t 121) (.t 133))), (23, .o 7 (.mv (.t 134)))] [109, 112, 113, 114, 115, 116, 117, 118, 119, 120, 121, 122, 123, 124, 125, 126, 127, 128, 129, 130, 131, 132, 133, 134])) (.reg [.o 110 (.mv (.t 12)), .o 111 (.bin .add .num (.t 110) (.c (.i .i64 1))), .o 12 (.mv (.t 111))] [110, 111]))
def c59_1 : C :=
  .seq (.seq (.reg [.o 75 (.mv (.t 11)), .o 76 (.fa 3 (.t 10)), .o 77 (.ld 1 false (.t 76)), .o 78 (.len false (.t 77)), .o 79 (.bin .lss .num (.t 75) (.t 78)), .o 80 (.mv (.t 79)), .op (some 81) (some (80, true)) (.mv (.t 7)), .op (some 82) (some (80, true)) (.mv (.t 1)), .op (some 83) (some (80, true)) (.bin .leq .num (.t 81) (.t 82)), .o 84 (.pick (.t 80) (.t 83) (.c (.b false)))] [75, 76, 77, 78, 79, 80, 81, 82, 83]) (.cond (.t 84) .skip (.exit 4))) (.seq (.blk 5 (.reg [.o 87 (.mv (.t 7)), .o 88 (.fa 3 (.t 10)), .o 89 (.ld 1 false (.t 88)), .o 90 (.mv (.t 11)), .o 91 (.ia 1 (.t 89) (.t 90)), .o 92 (.ld 1 false (.t 91)), .o 93 (.mv (.t 1)), .o 94 (.mv (.t 7)), .o 95 (.bin .sub .num (.t 93) (.t 94)), .o 96 (.mv (.t 2)), .o 97 (.bin .sub .num (.t 96) (.c (.i .i64 1))), .o 98 (.call 59 true [.t 92, .t 95, .t 97]), .o 99 (.bin .add .num (.t 87) (.t 98)), .o 7 (.mv (.t 99))] [84, 87, 88, 89, 90, 91, 92, 93, 94, 95, 96, 97, 98, 99])) (.reg [.o 85 (.mv (.t 11)), .o 86 (.bin .add .num (.t 85) (.c (.i .i64 1))), .o 11 (.mv (.t 86))] [85, 86]))
def c59_r0 : C :=
  .seq (.reg [.o 12 (.mv (.c (.i .i64 0)))] [11, 84]) (.blk 6 (.loop [] c59_0))
def c59_r1 : C :=
  .reg [.o 50 (.mv (.t 9)), .o 51 (.bin .add .num (.t 50) (.c (.i .i64 1))), .o 9 (.mv (.t 51))] [10, 12, 50, 51, 109]
def c59_2 : C :=
  .seq (.seq (.reg [.o 37 (.mv (.t 9)), .o 38 (.mv (.t 0)), .o 39 (.mv (.t 8)), .o 40 (.ia 2 (.t 38) (.t 39)), .o 41 (.fa 1 (.t 40)), .o 42 (.ld 1 false (.t 41)), .o 43 (.len false (.t 42)), .o 44 (.bin .lss .num (.t 37) (.t 43)), .o 45 (.mv (.t 44)), .op (some 46) (some (45, true)) (.mv (.t 7)), .op (some 47) (some (45, true)) (.mv (.t 1)), .op (some 48) (some (45, true)) (.bin .leq .num (.t 46) (.t 47)), .o 49 (.pick (.t 45) (.t 48) (.c (.b false)))] [37, 38, 39, 40, 41, 42, 43, 44, 45, 46, 47, 48]) (.cond (.t 49) .skip (.exit 2))) (.seq (.blk 3 (.seq (.reg [.o 52 (.mv (.t 0)), .o 53 (.mv (.t 8)), .o 54 (.ia 2 (.t 52) (.t 53)), .o 55 (.fa 1 (.t 54)), .o 56 (.ld 1 false (.t 55)), .o 57 (.mv (.t 9)), .o 58 (.ia 11 (.t 56) (.t 57)), .o 59 (.fa 0 (.t 58)), .o 60 (.ld 10 true (.t 59)), .o 10 (.alloc [.i .i64 0, .i .i64 0, .i .i64 0, .sl 1 true [] .ro, .i .i64 0, .sl 4 true [] .ro, .i .i64 0, .i .i64 0, .i .i64 0, .s []]), .op none none (.st 10 true (.t 10) (.t 60))] [49, 52, 53, 54, 55, 56, 57, 58, 59, 60]) (.seq (.reg [.o 61 (.mv (.t 7)), .o 62 (.fa 5 (.t 10)), .o 63 (.ld 1 false (.t 62)), .o 64 (.len false (.t 63)), .o 65 (.bin .add .num (.t 61) (.t 64)), .o 66 (.fa 3 (.t 10)), .o 67 (.ld 1 false (.t 66)), .o 68 (.len false (.t 67)), .o 69 (.bin .add .num (.t 65) (.t 68)), .o 70 (.fa 7 (.t 10)), .o 71 (.fa 2 (.t 70)), .o 72 (.ld 1 false (.t 71)), .o 73 (.len true (.t 72)), .o 74 (.bin .add .num (.t 69) (.t 73)), .o 7 (.mv (.t 74))] [61, 62, 63, 64, 65, 66, 67, 68, 69, 70, 71, 72, 73, 74]) (.seq (.seq (.reg [.o 11 (.mv (.c (.i .i64 0)))] []) (.blk 4 (.loop [] c59_1))) c59_r0)))) c59_r1)
def c59_r2 : C :=
  .reg [.o 26 (.mv (.t 8)), .o 27 (.bin .add .num (.t 26) (.c (.i .i64 1))), .o 8 (.mv (.t 27))] [9, 26, 27, 49]
def c59_3 : C :=
  .seq (.seq (.reg [.o 17 (.mv (.t 8)), .o 18 (.mv (.t 0)), .o 19 (.len false (.t 18)), .o 20 (.bin .lss .num (.t 17) (.t 19)), .o 21 (.mv (.t 20)), .op (some 22) (some (21, true)) (.mv (.t 7)), .op (some 23) (some (21, true)) (.mv (.t 1)), .op (some 24) (some (21, true)) (.bin .leq .num (.t 22) (.t 23)), .o 25 (.pick (.t 21) (.t 24) (.c (.b false)))] [17, 18, 19, 20, 21, 22, 23, 24]) (.cond (.t 25) .skip (.exit 0))) (.seq (.blk 1 (.seq (.reg [.o 28 (.mv (.t 7)), .o 29 (.bin .add .num (.t 28) (.c (.i .i64 1))), .o 30 (.mv (.t 0)), .o 31 (.mv (.t 8)), .o 32 (.ia 2 (.t 30) (.t 31)), .o 33 (.fa 1 (.t 32)), .o 34 (.ld 1 false (.t 33)), .o 35 (.len false (.t 34)), .o 36 (.bin .add .num (.t 29) (.t 35)), .o 7 (.mv (.t 36))] [25, 28, 29, 30, 31, 32, 33, 34, 35, 36]) (.seq (.reg [.o 9 (.mv (.c (.i .i64 0)))] []) (.blk 2 (.loop [] c59_2))))) c59_r2)
def c59_r3 : C :=
  .seq (.reg [.o 135 (.mv (.t 7)), .o 6 (.mv (.t 135))] [0, 1, 2, 7, 8, 25, 135]) .ret
def c59 : C :=
  (.seq (.reg [.o 6 (.mv (.c (.i .i64 0)))] [6]) (.seq (.reg [.o 7 (.mv (.c (.i .i64 0)))] []) (.seq (.seq (.reg [.o 13 (.mv (.t 2)), .o 14 (.bin .eql .num (.t 13) (.c (.i .i64 0)))] [13]) (.cond (.t 14) (.seq (.reg [.o 15 (.mv (.t 1)), .o 16 (.bin .add .num (.t 15) (.c (.i .i64 1))), .o 6 (.mv (.t 16))] [0, 1, 2, 7, 14, 15, 16]) .ret) .skip)) (.seq (.seq (.reg [.o 8 (.mv (.c (.i .i64 0)))] [14]) (.blk 0 (.loop [] c59_3))) c59_r3))))
def d59 : Fn := { real := 59, np := 3, nt := 136, res := [.t 6], body := c59 }

/-- lineage/annotation.Valid -/
def c60_0 : C :=
  .seq (.reg [.o 43 (.bin .lss .num (.t 42) (.t 41))] []) (.seq (.cond (.t 43) .skip (.exit 2)) (.seq (.blk 3 (.seq (.reg [.o 44 (.mv (.t 42)), .o 45 (.ia 11 (.t 40) (.t 42)), .o 46 (.ld 11 true (.t 45)), .o 6 (.alloc [.i .i64 0, .i .i64 0, .i .i64 0, .sl 1 true [] .ro, .i .i64 0, .sl 4 true [] .ro, .i .i64 0, .i .i64 0, .i .i64 0, .s [], .i .i64 0]), .o 5 (.mv (.t 44)), .op none none (.st 11 true (.t 6) (.t 46))] [43, 44, 45, 46]) (.seq (.dreg [(0, .o 47 (.fa 10 (.t 6))), (1, .o 48 (.ld 1 false (.t 47))), (2, .o 49 (.bin .lss .num (.t 48) (.c (.i .i64 1)))), (3, .o 50 (.mv (.t 49))), (4, .op (some 51) (some (50, false)) (.fa 0 (.t 6))), (5, .op (some 52) (some (50, false)) (.ld 10 true (.t 51))), (6, .op (some 53) (some (50, false)) (.call 98 true [.t 52])), (7, .op (some 54) (some (50, false)) (.mv (.t 53))), (8, .op (some 55) (some (54, true)) (.fa 10 (.t 6))), (9, .op (some 56) (some (54, true)) (.ld 1 false (.t 55))), (10, .op (some 57) (some (54, true)) (.bin .neq .num (.t 56) (.c (.i .i64 1)))), (11, .op (some 58) (some (50, false)) (.pick (.t 54) (.t 57) (.c (.b false)))), (12, .o 59 (.pick (.t 50) (.c (.b true)) (.t 58))), (13, .o 60 (.mv (.t 59))), (14, .op (some 61) (some (60, false)) (.mv (.t 5))), (15, .op (some 62) (some (60, false)) (.bin .gtr .num (.t 61) (.c (.i .i64 0)))), (16, .op (some 63) (some (60, false)) (.mv (.t 62))), (17, .op (some 64) (some (63, true)) (.fa 1 (.t 4))), (18, .op (some 65) (some (63, true)) (.ld 1 false (.t 64))), (19, .op (some 66) (some (63, true)) (.mv (.t 5))), (20, .op (some 67) (some (63, true)) (.bin .sub .num (.t 66) (.c (.i .i64 1)))), (21, .op (some 68) (some (63, true)) (.ia 11 (.t 65) (.t 67))), (22, .op (some 69) (some (63, true)) (.fa 0 (.t 68))), (23, .op (some 70) (some (63, true)) (.ld 10 true (.t 69))), (24, .op (some 71) (some (63, true)) (.fa 0 (.t 6))), (25, .op (some 72) (some (63, true)) (.ld 10 true (.t 71))), (26, .op (some 73) (some (63, true)) (.call 99 true [.t 70, .t 72])), (27, .op (some 74) (some (63, true)) (.bin .geq .num (.t 73) (.c (.i .i64 0)))), (28, .op (some 75) (some (60, false)) (.pick (.t 63) (.t 74) (.c (.b false)))), (29, .o 76 (.pick (.t 60) (.c (.b true)) (.t 75))), (30, .o 77 (.mv (.t 76))), (31, .op (some 78) (some (77, false)) (.fa 0 (.t 6))), (32, .op (some 79) (some (77, false)) (.ld 10 true (.t 78))), (33, .op (some 80) (some (77, false)) (.call 100 true [.t 79])), (34, .op (some 81) (some (77, false)) (.un .not (.t 80))), (35, .o 82 (.pick (.t 77) (.c (.b true)) (.t 81)))] [5, 6, 47, 48, 49, 50, 51, 52, 53, 54, 55, 56, 57, 58, 59, 60, 61, 62, 63, 64, 65, 66, 67, 68, 69, 70, 71, 72, 73, 74, 75, 76, 77, 78, 79, 80, 81]) (.cond (.t 82) (.seq (.reg [.o 2 (.mv (.c (.b false)))] [0, 4, 10, 11, 12, 40, 41, 42, 82]) .ret) .skip)))) (.reg [.o 83 (.bin .add .num (.t 42) (.c (.i .i64 1))), .o 42 (.mv (.t 83))] [82, 83])))
def c60_r0 : C :=
  .reg [.o 84 (.bin .add .num (.t 12) (.c (.i .i64 1))), .o 12 (.mv (.t 84))] [4, 40, 41, 42, 43, 84]
def c60_1 : C :=
  .seq (.reg [.o 13 (.bin .lss .num (.t 12) (.t 11))] []) (.seq (.cond (.t 13) .skip (.exit 0)) (.seq (.blk 1 (.seq (.reg [.o 14 (.mv (.t 12)), .o 15 (.ia 2 (.t 10) (.t 12)), .o 16 (.ld 2 true (.t 15)), .o 4 (.alloc [.i .i64 0, .sl 11 true [] .ro]), .o 3 (.mv (.t 14)), .op none none (.st 2 true (.t 4) (.t 16))] [13, 14, 15, 16]) (.seq (.seq (.dreg [(0, .o 17 (.fa 0 (.t 4))), (1, .o 18 (.ld 1 false (.t 17))), (2, .o 19 (.bin .lss .num (.t 18) (.c (.i .i64 1)))), (3, .o 20 (.mv (.t 19))), (4, .op (some 21) (some (20, false)) (.fa 0 (.t 4))), (5, .op (some 22) (some (20, false)) (.ld 1 false (.t 21))), (6, .op (some 23) (some (20, false)) (.bin .gtr .num (.t 22) (.c (.i .i64 1152921504606846976)))), (7, .o 24 (.pick (.t 20) (.c (.b true)) (.t 23))), (8, .o 25 (.mv (.t 24))), (9, .op (some 26) (some (25, false)) (.mv (.t 3))), (10, .op (some 27) (some (25, false)) (.bin .gtr .num (.t 26) (.c (.i .i64 0)))), (11, .op (some 28) (some (25, false)) (.mv (.t 27))), (12, .op (some 29) (some (28, true)) (.mv (.t 0))), (13, .op (some 30) (some (28, true)) (.mv (.t 3))), (14, .op (some 31) (some (28, true)) (.bin .sub .num (.t 30) (.c (.i .i64 1)))), (15, .op (some 32) (some (28, true)) (.ia 2 (.t 29) (.t 31))), (16, .op (some 33) (some (28, true)) (.ld 2 true (.t 32))), (17, .op (some 34) (some (28, true)) (.ld 2 true (.t 4))), (18, .op (some 35) (some (28, true)) (.call 97 true [.t 33, .t 34])), (19, .op (some 36) (some (28, true)) (.bin .geq .num (.t 35) (.c (.i .i64 0)))), (20, .op (some 37) (some (25, false)) (.pick (.t 28) (.t 36) (.c (.b false)))), (21, .o 38 (.pick (.t 25) (.c (.b true)) (.t 37)))] [3, 17, 18, 19, 20, 21, 22, 23, 24, 25, 26, 27, 28, 29, 30, 31, 32, 33, 34, 35, 36, 37]) (.cond (.t 38) (.seq (.reg [.o 2 (.mv (.c (.b false)))] [0, 4, 10, 11, 12, 38]) .ret) .skip)) (.seq (.reg [.o 39 (.fa 1 (.t 4)), .o 40 (.ld 1 false (.t 39)), .o 41 (.len false (.t 40)), .o 42 (.mv (.c (.i .i64 0)))] [38, 39]) (.blk 2 (.loop [] c60_0)))))) c60_r0))
def c60_r1 : C :=
  .seq (.reg [.o 2 (.mv (.c (.b true)))] [0, 10, 11, 12, 13]) .ret
def c60 : C :=
  (.seq (.reg [.o 2 (.mv (.c (.b false)))] [2]) (.seq (.seq (.reg [.o 7 (.mv (.t 0)), .o 8 (.call 96 true [.t 7]), .o 9 (.un .not (.t 8))] [7, 8]) (.cond (.t 9) (.seq (.reg [.o 2 (.mv (.c (.b false)))] [0, 9]) .ret) .skip)) (.seq (.seq (.reg [.o 10 (.mv (.t 0)), .o 11 (.len false (.t 10)), .o 12 (.mv (.c (.i .i64 0)))] [9]) (.blk 0 (.loop [] c60_1))) c60_r1)))
def d60 : Fn := { real := 60, np := 1, nt := 85, res := [.t 2], body := c60 }

/-- lineage/bdd.tested -/
def c61_0 : C :=
  .seq (.reg [.o 17 (.bin .lss .num (.t 16) (.t 15))] []) (.seq (.cond (.t 17) .skip (.exit 2)) (.seq (.blk 3 (.seq (.reg [.o 18 (.ia 11 (.t 14) (.t 16)), .o 19 (.ld 11 true (.t 18)), .o 6 (.alloc [.i .i64 0, .i .i64 0, .i .i64 0, .sl 1 true [] .ro, .i .i64 0, .sl 4 true [] .ro, .i .i64 0, .i .i64 0, .i .i64 0, .s [], .i .i64 0]), .op none none (.st 11 true (.t 6) (.t 19))] [17, 18, 19]) (.seq (.reg [.o 20 (.fa 0 (.t 6)), .o 21 (.fa 0 (.t 20)), .o 22 (.ld 1 false (.t 21)), .o 23 (.bin .eql .num (.t 22) (.c (.i .i64 4))), .o 24 (.mv (.t 23)), .op (some 25) (some (24, false)) (.fa 0 (.t 6)), .op (some 26) (some (24, false)) (.fa 3 (.t 25)), .op (some 27) (some (24, false)) (.ld 1 false (.t 26)), .op (some 28) (some (24, false)) (.call 101 true [.t 27, .c (.fn 61 [])]), .o 29 (.pick (.t 24) (.c (.b true)) (.t 28))] [6, 20, 21, 22, 23, 24, 25, 26, 27, 28]) (.cond (.t 29) (.seq (.reg [.o 2 (.mv (.c (.b true)))] [7, 8, 9, 14, 15, 16, 29]) .ret) .skip)))) (.reg [.o 30 (.bin .add .num (.t 16) (.c (.i .i64 1))), .o 16 (.mv (.t 30))] [29, 30])))
def c61_r0 : C :=
  .reg [.o 31 (.bin .add .num (.t 9) (.c (.i .i64 1))), .o 9 (.mv (.t 31))] [14, 15, 16, 17, 31]
def c61_1 : C :=
  .seq (.reg [.o 10 (.bin .lss .num (.t 9) (.t 8))] []) (.seq (.cond (.t 10) .skip (.exit 0)) (.seq (.blk 1 (.seq (.reg [.o 11 (.ia 2 (.t 7) (.t 9)), .o 12 (.ld 2 true (.t 11)), .o 4 (.alloc [.i .i64 0, .sl 11 true [] .ro]), .op none none (.st 2 true (.t 4) (.t 12))] [10, 11, 12]) (.seq (.reg [.o 13 (.fa 1 (.t 4)), .o 14 (.ld 1 false (.t 13)), .o 15 (.len false (.t 14)), .o 16 (.mv (.c (.i .i64 0)))] [4, 13]) (.blk 2 (.loop [] c61_0))))) c61_r0))
def c61_r1 : C :=
  .seq (.reg [.o 2 (.mv (.c (.b false)))] [7, 8, 9, 10]) .ret
def c61 : C :=
  (.seq (.reg [.o 2 (.mv (.c (.b false)))] [2]) (.seq (.seq (.reg [.o 7 (.mv (.t 0)), .o 8 (.len false (.t 7)), .o 9 (.mv (.c (.i .i64 0)))] [0]) (.blk 0 (.loop [] c61_1))) c61_r1))
def d61 : Fn := { real := 61, np := 1, nt := 32, res := [.t 2], body := c61 }

/-- slices.ContainsFunc[[]lineage/api.RowID,lineage/api.RowID] -/
def c62 : C :=
  (.seq (.reg [.o 4 (.mv (.c (.b false)))] [4]) (.seq (.reg [.o 5 (.mv (.t 0)), .o 6 (.mv (.t 1)), .o 7 (.call 102 false [.t 5, .t 6]), .o 8 (.bin .geq .num (.t 7) (.c (.i .i64 0))), .o 4 (.mv (.t 8))] [0, 1, 5, 6, 7, 8]) .ret))
def d62 : Fn := { real := 62, np := 2, nt := 9, res := [.t 4], body := c62 }

/-- lineage/annotation.Variables -/
def c63 : C :=
  (.seq (.reg [.o 2 (.mv (.c (.sl 2 true [] .ro)))] [2]) (.seq (.reg [.o 3 (.alloc [.sl 2 true [] .ro])] []) (.seq (.reg [.o 4 (.mv (.t 0)), .o 5 (.mkfn 104 [.t 3]), .o 6 (.call 103 false [.t 4, .t 5])] [0, 4, 5, 6]) (.seq (.reg [.o 7 (.ld 1 false (.t 3)), .o 8 (.call 81 true [.t 7]), .o 2 (.mv (.t 8))] [3, 7, 8]) .ret))))
def d63 : Fn := { real := 63, np := 1, nt := 9, res := [.t 2], body := c63 }

/-- lineage/bdd.Build$1 -/
def c64 : C :=
  (.seq (.reg [.o 2 (.box 2 true (.t 0)), .o 3 (.mv (.c (.b false)))] [0, 3]) (.seq (.reg [.o 4 (.ld 1 false (.t 1)), .o 5 (.ld 2 true (.t 2)), .o 6 (.call 65 true [.t 4, .t 5]), .o 7 (.un .not (.t 6)), .o 3 (.mv (.t 7))] [1, 2, 4, 5, 6, 7]) .ret))
def d64 : Fn := { real := 64, np := 2, nt := 8, res := [.t 3], body := c64 }

/-- slices.Contains[[]lineage/api.RowID,lineage/api.RowID] -/
def c65 : C :=
  (.seq (.reg [.o 3 (.box 2 true (.t 1)), .o 4 (.mv (.c (.b false)))] [1, 4]) (.seq (.reg [.o 5 (.mv (.t 0)), .o 6 (.ld 2 true (.t 3)), .o 7 (.call 50 true [.t 5, .t 6]), .o 8 (.bin .geq .num (.t 7) (.c (.i .i64 0))), .o 4 (.mv (.t 8))] [0, 3, 5, 6, 7, 8]) .ret))
def d65 : Fn := { real := 65, np := 2, nt := 9, res := [.t 4], body := c65 }

/-- (lineage/bdd.builder).sum -/
def c66_0 : C :=
  .seq (.reg [.o 17 (.bin .lss .num (.t 16) (.t 15))] []) (.seq (.cond (.t 17) .skip (.exit 0)) (.seq (.blk 1 (.seq (.reg [.o 18 (.ia 2 (.t 14) (.t 16)), .o 19 (.ld 2 true (.t 18)), .o 8 (.alloc [.i .i64 0, .sl 11 true [] .ro]), .op none none (.st 2 true (.t 8) (.t 19))] [17, 18, 19]) (.seq (.reg [.o 21 (.ld 2 true (.t 2)), .o 22 (.ld 2 true (.t 8)), .o 23 (.call 105 true [.t 21, .t 22]), .o 20 (.mv (.t 23)), .o 24 (.ext (.t 20) 0), .o 25 (.ext (.t 20) 1), .o 9 (.alloc [.sl 2 true [] .ro, .sl 3 true [] .ro, .i .i64 0]), .op none none (.st 3 true (.t 9) (.t 24)), .o 10 (.mv (.t 25))] [8, 20, 21, 22, 23, 24, 25]) (.seq (.seq (.reg [.o 26 (.mv (.t 10)), .o 27 (.bin .neq .num (.t 26) (.c (.i .i64 0)))] [26]) (.cond (.t 27) (.seq (.reg [.o 28 (.bld [.sl 2 true [] .ro, .sl 3 true [] .ro, .i .i64 0] []), .o 29 (.mv (.t 10)), .op none none (.st 3 true (.t 4) (.t 28)), .o 5 (.mv (.t 29))] [2, 6, 9, 10, 14, 15, 16, 27, 28, 29]) .ret) .skip)) (.seq (.dreg [(0, .o 31 (.ld 2 true (.t 2))), (1, .o 32 (.ld 3 true (.t 6))), (2, .o 33 (.ld 3 true (.t 9))), (3, .o 34 (.call 22 true [.t 32, .t 33])), (4, .o 35 (.ext (.t 34) 0)), (5, .o 36 (.ext (.t 34) 1)), (6, .o 37 (.call 106 true [.t 31, .t 35, .t 36])), (7, .o 30 (.mv (.t 37))), (8, .o 38 (.ext (.t 30) 0)), (9, .o 39 (.ext (.t 30) 1)), (10, .op none none (.st 3 true (.t 6) (.t 38))), (11, .o 10 (.mv (.t 39)))] [9, 27, 30, 31, 32, 33, 34, 35, 36, 37, 38, 39]) (.seq (.reg [.o 40 (.mv (.t 10)), .o 41 (.bin .neq .num (.t 40) (.c (.i .i64 0)))] [40]) (.cond (.t 41) (.seq (.reg [.o 42 (.bld [.sl 2 true [] .ro, .sl 3 true [] .ro, .i .i64 0] []), .o 43 (.mv (.t 10)), .op none none (.st 3 true (.t 4) (.t 42)), .o 5 (.mv (.t 43))] [2, 6, 10, 14, 15, 16, 41, 42, 43]) .ret) .skip))))))) (.reg [.o 44 (.bin .add .num (.t 16) (.c (.i .i64 1))), .o 16 (.mv (.t 44))] [10, 41, 44])))
def c66_r0 : C :=
  .seq (.reg [.o 45 (.ld 3 true (.t 6)), .op none none (.st 3 true (.t 4) (.t 45)), .o 5 (.mv (.c (.i .i64 0)))] [2, 6, 14, 15, 16, 17, 45]) .ret
def c66 : C :=
  (.seq (.reg [.o 2 (.box 2 true (.t 0)), .o 4 (.alloc [.sl 2 true [] .ro, .sl 3 true [] .ro, .i .i64 0]), .o 5 (.mv (.c (.i .i64 0)))] [0, 5]) (.seq (.reg [.o 11 (.fa 0 (.t 2)), .o 12 (.ld 1 false (.t 11)), .o 13 (.call 13 true [.t 12, .c (.b false)]), .o 6 (.alloc [.sl 2 true [] .ro, .sl 3 true [] .ro, .i .i64 0]), .op none none (.st 3 true (.t 6) (.t 13))] [11, 12, 13]) (.seq (.seq (.reg [.o 14 (.mv (.t 1)), .o 15 (.len false (.t 14)), .o 16 (.mv (.c (.i .i64 0)))] [1]) (.blk 0 (.loop [] c66_0))) c66_r0)))
def d66 : Fn := { real := 66, np := 2, nt := 46, res := [.cell 4 3 true, .t 5], body := c66 }





/-- lineage/bdd.shaped -/
def c71_0 : C :=
  .seq (.reg [.o 12 (.bin .lss .num (.t 11) (.t 10))] []) (.seq (.cond (.t 12) .skip (.exit 0)) (.seq (.blk 1 (.seq (.reg [.o 13 (.mv (.t 11)), .o 14 (.ia 3 (.t 9) (.t 11)), .o 15 (.ld 3 true (.t 14)), .o 5 (.alloc [.i .i64 0, .i .i64 0, .i .i64 0]), .o 4 (.mv (.t 13)), .op none none (.st 3 true (.t 5) (.t 15))] [12, 13, 14, 15]) (.seq (.reg [.o 16 (.fa 1 (.t 5)), .o 17 (.ld 1 false (.t 16)), .o 18 (.bin .geq .num (.t 17) (.c (.i .i64 0))), .o 19 (.mv (.t 18)), .op (some 20) (some (19, true)) (.fa 2 (.t 5)), .op (some 21) (some (19, true)) (.ld 1 false (.t 20)), .op (some 22) (some (19, true)) (.bin .geq .num (.t 21) (.c (.i .i64 0))), .o 23 (.pick (.t 19) (.t 22) (.c (.b false))), .o 24 (.mv (.t 23)), .op (some 25) (some (24, true)) (.fa 1 (.t 5)), .op (some 26) (some (24, true)) (.ld 1 false (.t 25)), .op (some 27) (some (24, true)) (.mv (.t 4)), .op (some 28) (some (24, true)) (.bin .add .num (.t 27) (.c (.i .i64 2))), .op (some 29) (some (24, true)) (.bin .lss .num (.t 26) (.t 28)), .o 30 (.pick (.t 24) (.t 29) (.c (.b false))), .o 31 (.mv (.t 30)), .op (some 32) (some (31, true)) (.fa 2 (.t 5)), .op (some 33) (some (31, true)) (.ld 1 false (.t 32)), .op (some 34) (some (31, true)) (.mv (.t 4)), .op (some 35) (some (31, true)) (.bin .add .num (.t 34) (.c (.i .i64 2))), .op (some 36) (some (31, true)) (.bin .lss .num (.t 33) (.t 35)), .o 37 (.pick (.t 31) (.t 36) (.c (.b false))), .o 6 (.mv (.t 37))] [4, 16, 17, 18, 19, 20, 21, 22, 23, 24, 25, 26, 27, 28, 29, 30, 31, 32, 33, 34, 35, 36, 37]) (.seq (.seq (.dreg [(0, .o 38 (.fa 0 (.t 5))), (1, .o 39 (.ld 1 false (.t 38))), (2, .o 40 (.bin .lss .num (.t 39) (.c (.i .i64 0)))), (3, .o 41 (.mv (.t 40))), (4, .op (some 42) (some (41, false)) (.fa 0 (.t 5))), (5, .op (some 43) (some (41, false)) (.ld 1 false (.t 42))), (6, .op (some 44) (some (41, false)) (.fa 0 (.t 1))), (7, .op (some 45) (some (41, false)) (.ld 1 false (.t 44))), (8, .op (some 46) (some (41, false)) (.len false (.t 45))), (9, .op (some 47) (some (41, false)) (.bin .geq .num (.t 43) (.t 46))), (10, .o 48 (.pick (.t 41) (.c (.b true)) (.t 47))), (11, .o 49 (.mv (.t 48))), (12, .op (some 50) (some (49, false)) (.mv (.t 6))), (13, .op (some 51) (some (49, false)) (.un .not (.t 50))), (14, .o 52 (.pick (.t 49) (.c (.b true)) (.t 51))), (15, .o 53 (.mv (.t 52))), (16, .op (some 54) (some (53, false)) (.fa 1 (.t 5))), (17, .op (some 55) (some (53, false)) (.ld 1 false (.t 54))), (18, .op (some 56) (some (53, false)) (.fa 2 (.t 5))), (19, .op (some 57) (some (53, false)) (.ld 1 false (.t 56))), (20, .op (some 58) (some (53, false)) (.bin .eql .num (.t 55) (.t 57))), (21, .o 59 (.pick (.t 53) (.c (.b true)) (.t 58))), (22, .o 60 (.mv (.t 59))), (23, .op (some 61) (some (60, false)) (.mv (.t 3))), (24, .op (some 62) (some (60, false)) (.ld 3 true (.t 5))), (25, .op (some 63) (some (60, false)) (.lk (.agg [.i, .i, .i]) false (.b false) (.t 61) (.t 62))), (26, .o 64 (.pick (.t 60) (.c (.b true)) (.t 63))), (27, .o 65 (.mv (.t 64))), (28, .op (some 66) (some (65, false)) (.ld 3 true (.t 1))), (29, .op (some 67) (some (65, false)) (.fa 1 (.t 5))), (30, .op (some 68) (some (65, false)) (.ld 1 false (.t 67))), (31, .op (some 69) (some (65, false)) (.call 77 true [.t 66, .t 68])), (32, .op (some 70) (some (65, false)) (.fa 0 (.t 5))), (33, .op (some 71) (some (65, false)) (.ld 1 false (.t 70))), (34, .op (some 72) (some (65, false)) (.bin .leq .num (.t 69) (.t 71))), (35, .o 73 (.pick (.t 65) (.c (.b true)) (.t 72))), (36, .o 74 (.mv (.t 73))), (37, .op (some 75) (some (74, false)) (.ld 3 true (.t 1))), (38, .op (some 76) (some (74, false)) (.fa 2 (.t 5))), (39, .op (some 77) (some (74, false)) (.ld 1 false (.t 76))), (40, .op (some 78) (some (74, false)) (.call 77 true [.t 75, .t 77])), (41, .op (some 79) (some (74, false)) (.fa 0 (.t 5))), (42, .op (some 80) (some (74, false)) (.ld 1 false (.t 79))), (43, .op (some 81) (some (74, false)) (.bin .leq .num (.t 78) (.t 80))), (44, .o 82 (.pick (.t 74) (.c (.b true)) (.t 81)))] [6, 38, 39, 40, 41, 42, 43, 44, 45, 46, 47, 48, 49, 50, 51, 52, 53, 54, 55, 56, 57, 58, 59, 60, 61, 62, 63, 64, 65, 66, 67, 68, 69, 70, 71, 72, 73, 74, 75, 76, 77, 78, 79, 80, 81]) (.cond (.t 82) (.seq (.reg [.o 2 (.mv (.c (.b false)))] [1, 3, 5, 9, 10, 11, 82]) .ret) .skip)) (.reg [.o 83 (.mv (.t 3)), .o 84 (.ld 3 true (.t 5)), .op none none (.mu (.agg [.i, .i, .i]) (.t 83) (.t 84) (.c (.b true)))] [5, 82, 83, 84]))))) (.reg [.o 85 (.bin .add .num (.t 11) (.c (.i .i64 1))), .o 11 (.mv (.t 85))] [85])))
def c71_r0 : C :=
  .seq (.reg [.o 86 (.fa 2 (.t 1)), .o 87 (.ld 1 false (.t 86)), .o 88 (.bin .geq .num (.t 87) (.c (.i .i64 0))), .o 89 (.mv (.t 88)), .op (some 90) (some (89, true)) (.fa 2 (.t 1)), .op (some 91) (some (89, true)) (.ld 1 false (.t 90)), .op (some 92) (some (89, true)) (.fa 1 (.t 1)), .op (some 93) (some (89, true)) (.ld 1 false (.t 92)), .op (some 94) (some (89, true)) (.len false (.t 93)), .op (some 95) (some (89, true)) (.bin .add .num (.t 94) (.c (.i .i64 2))), .op (some 96) (some (89, true)) (.bin .lss .num (.t 91) (.t 95)), .o 97 (.pick (.t 89) (.t 96) (.c (.b false))), .o 2 (.mv (.t 97))] [1, 3, 9, 10, 11, 12, 86, 87, 88, 89, 90, 91, 92, 93, 94, 95, 96, 97]) .ret
def c71 : C :=
  (.seq (.reg [.o 1 (.box 3 true (.t 0)), .o 2 (.mv (.c (.b false)))] [0, 2]) (.seq (.reg [.o 7 (.mkmap), .o 3 (.mv (.t 7))] [7]) (.seq (.seq (.reg [.o 8 (.fa 1 (.t 1)), .o 9 (.ld 1 false (.t 8)), .o 10 (.len false (.t 9)), .o 11 (.mv (.c (.i .i64 0)))] [8]) (.blk 0 (.loop [] c71_0))) c71_r0)))
def d71 : Fn := { real := 71, np := 1, nt := 98, res := [.t 2], body := c71 }

/-- lineage/bdd.numbered -/
def c72 : C :=
  (.seq (.reg [.o 4 (.box 1 false (.t 1)), .o 6 (.alloc [.sl 2 true [] .ro, .sl 3 true [] .ro, .i .i64 0])] [1]) (.seq (.reg [.o 10 (.mv (.t 0)), .o 11 (.call 49 true [.t 10]), .o 12 (.bld [.sl 2 true [] .ro, .sl 3 true [] .ro, .i .i64 0] [(0, 1, false, .t 11)]), .o 7 (.alloc [.sl 2 true [] .ro, .sl 3 true [] .ro, .i .i64 0]), .op none none (.st 3 true (.t 7) (.t 12))] [0, 10, 11, 12]) (.seq (.reg [.o 13 (.mkmap), .op none none (.mu (.one .i) (.t 13) (.c (.i .i64 0)) (.c (.i .i64 0))), .op none none (.mu (.one .i) (.t 13) (.c (.i .i64 1)) (.c (.i .i64 1))), .o 14 (.mv (.t 13)), .o 8 (.alloc [.nilm]), .op none none (.st 1 false (.t 8) (.t 14))] [13, 14]) (.seq (.reg [.o 9 (.alloc [.top])] []) (.seq (.reg [.o 15 (.mkfn 115 [.t 8, .t 4, .t 9, .t 7]), .op none none (.st 1 false (.t 9) (.t 15))] [4, 8, 15]) (.seq (.reg [.o 16 (.ld 1 false (.t 9)), .o 17 (.mv (.t 2)), .o 18 (.calld (.t 16) false [.t 17]), .o 19 (.fa 2 (.t 7)), .op none none (.st 1 false (.t 19) (.t 18))] [2, 9, 16, 17, 18, 19]) (.seq (.reg [.o 20 (.ld 3 true (.t 7)), .op none none (.st 3 true (.t 6) (.t 20))] [7, 20]) .ret)))))))
def d72 : Fn := { real := 72, np := 3, nt := 21, res := [.cell 6 3 true], body := c72 }

/-- slices.Equal[[]lineage/api.BDDNode,lineage/api.BDDNode] -/
def c73_0 : C :=
  .seq (.reg [.o 14 (.bin .lss .num (.t 13) (.t 12))] []) (.seq (.cond (.t 14) .skip (.exit 0)) (.seq (.blk 1 (.seq (.reg [.o 15 (.mv (.t 13)), .o 5 (.mv (.t 15))] [14, 15]) (.seq (.dreg [(0, .o 16 (.mv (.t 0))), (1, .o 17 (.mv (.t 5))), (2, .o 18 (.ia 3 (.t 16) (.t 17))), (3, .o 19 (.ld 3 true (.t 18))), (4, .o 20 (.mv (.t 1))), (5, .o 21 (.mv (.t 5))), (6, .o 22 (.ia 3 (.t 20) (.t 21))), (7, .o 23 (.ld 3 true (.t 22))), (8, .o 24 (.bin .neq (.agg [.i, .i, .i]) (.t 19) (.t 23)))] [5, 16, 17, 18, 19, 20, 21, 22, 23]) (.cond (.t 24) (.seq (.reg [.o 4 (.mv (.c (.b false)))] [0, 1, 12, 13, 24]) .ret) .skip)))) (.reg [.o 25 (.bin .add .num (.t 13) (.c (.i .i64 1))), .o 13 (.mv (.t 25))] [24, 25])))
def c73_r0 : C :=
  .seq (.reg [.o 4 (.mv (.c (.b true)))] [0, 1, 12, 13, 14]) .ret
def c73 : C :=
  (.seq (.reg [.o 4 (.mv (.c (.b false)))] [4]) (.seq (.seq (.reg [.o 6 (.mv (.t 0)), .o 7 (.len false (.t 6)), .o 8 (.mv (.t 1)), .o 9 (.len false (.t 8)), .o 10 (.bin .neq .num (.t 7) (.t 9))] [6, 7, 8, 9]) (.cond (.t 10) (.seq (.reg [.o 4 (.mv (.c (.b false)))] [0, 1, 10]) .ret) .skip)) (.seq (.seq (.reg [.o 11 (.mv (.t 0)), .o 12 (.len false (.t 11)), .o 13 (.mv (.c (.i .i64 0)))] [10, 11]) (.blk 0 (.loop [] c73_0))) c73_r0)))
def d73 : Fn := { real := 73, np := 2, nt := 26, res := [.t 4], body := c73 }

/-- slices.Equal[[]lineage/api.RowID,lineage/api.RowID] -/
def c74_0 : C :=
  .seq (.reg [.o 14 (.bin .lss .num (.t 13) (.t 12))] []) (.seq (.cond (.t 14) .skip (.exit 0)) (.seq (.blk 1 (.seq (.reg [.o 15 (.mv (.t 13)), .o 5 (.mv (.t 15))] [14, 15]) (.seq (.dreg [(0, .o 16 (.mv (.t 0))), (1, .o 17 (.mv (.t 5))), (2, .o 18 (.ia 2 (.t 16) (.t 17))), (3, .o 19 (.ld 2 true (.t 18))), (4, .o 20 (.mv (.t 1))), (5, .o 21 (.mv (.t 5))), (6, .o 22 (.ia 2 (.t 20) (.t 21))), (7, .o 23 (.ld 2 true (.t 22))), (8, .o 24 (.bin .neq (.agg [.i, .i]) (.t 19) (.t 23)))] [5, 16, 17, 18, 19, 20, 21, 22, 23]) (.cond (.t 24) (.seq (.reg [.o 4 (.mv (.c (.b false)))] [0, 1, 12, 13, 24]) .ret) .skip)))) (.reg [.o 25 (.bin .add .num (.t 13) (.c (.i .i64 1))), .o 13 (.mv (.t 25))] [24, 25])))
def c74_r0 : C :=
  .seq (.reg [.o 4 (.mv (.c (.b true)))] [0, 1, 12, 13, 14]) .ret
def c74 : C :=
  (.seq (.reg [.o 4 (.mv (.c (.b false)))] [4]) (.seq (.seq (.reg [.o 6 (.mv (.t 0)), .o 7 (.len false (.t 6)), .o 8 (.mv (.t 1)), .o 9 (.len false (.t 8)), .o 10 (.bin .neq .num (.t 7) (.t 9))] [6, 7, 8, 9]) (.cond (.t 10) (.seq (.reg [.o 4 (.mv (.c (.b false)))] [0, 1, 10]) .ret) .skip)) (.seq (.seq (.reg [.o 11 (.mv (.t 0)), .o 12 (.len false (.t 11)), .o 13 (.mv (.c (.i .i64 0)))] [10, 11]) (.blk 0 (.loop [] c74_0))) c74_r0)))
def d74 : Fn := { real := 74, np := 2, nt := 26, res := [.t 4], body := c74 }

end Go.Proofs.YtjlmeikcfdanmaaGreatDoor.DE
