/-
  THE LAW BddBuild: for every order, annotation and number the law returns true, and the arguments read as before. No condition.
-/
import Derived.Test.YtjlmeikcfdanmaaGreatDoorQu6
import Derived.Test.YtjlmeikcfdanmaaGreatDoorTie
import Derived.Test.YtjlmeikcfdanmaaGreatDoorCards
import Derived.SevenTiedAt
import Derived.Lay
set_option linter.unusedVariables false
set_option linter.unusedSimpArgs false
namespace Go.Proofs.YtjlmeikcfdanmaaGreatDoor
open Go.ChangeShapes Go.WideShapes Go.ChangeAt Go.RowKit
set_option maxRecDepth 100000

theorem Tryz.own : ownKnob Tryz.prog.godebug = none := by kernel_rfl
theorem Tryz.laidOut : laidOutB Tryz.prog = true := by kernel_rfl

theorem trodAll_below {H : Type} {enc : TypeId × Value → H} {W W' : World} (hb : Below W.heap.size W W') : ∀ (ts : List TypeId) (vs : List Value) (ds : List (DataW H)) (ps : List MemPlace),
    (∀ t ∈ ts, Tryz.prog.readableRec t = true ∧ t < Tryz.prog.types.size) → DataW.TrodAll enc Tryz.prog W 0 (fun _ => true) true ts vs ds ps → (∀ x ∈ ps, x.block < W.heap.size) →
    DataW.TrodAll enc Tryz.prog W' 0 (fun b => decide (b < W.heap.size)) true ts vs ds ps
  | [], [], [], _, _, h, _ => h
  | t :: ts, v :: vs, d :: ds, ps, hr, h, hlt => by
    obtain ⟨p, q, h1, h2, rfl⟩ := h
    exact ⟨p, q, Below.trod Tryz.laidOut (hr t (by simp)).1 (hr t (by simp)).2 h1 hb (fun x hx => hlt x (List.mem_append_left _ hx)),
      trodAll_below hb ts vs ds q (fun t ht => hr t (List.mem_cons_of_mem _ ht)) h2 (fun x hx => hlt x (List.mem_append_right _ hx)), rfl⟩

theorem below_ext {F F' : DE.Fix} {G' : List DE.Gh} {W W' : World} {S' : DE.Store} (e : DE.Ext F [] W [] F' G' W' S') : Below W.heap.size W W' :=
  ⟨e.os, e.tape, e.output, e.size, fun b hb => e.frame b hb (DE.not_owns b)⟩

theorem bddBuild_types : ([22, 49, 3].all fun t => Tryz.prog.readableRec t && decide (t < Tryz.prog.types.size)) = true := by kernel_rfl

theorem bddBuild_lifted (os : Os) (started : os.Started) (H : Type) (enc : TypeId × Value → H) :
    ReturnsInHanded {} Tryz.checked os 4 .any (fun w args => (Rows.bddBuildSpec.pre enc Tryz.prog Tryz.f4 Rows.bddBuildRow.domain false w args ∧ laidMetH Tryz.prog Rows.bddBuildRow.laid w) ∧ sizedMet enc Tryz.prog Tryz.f4 (OpenSpec.ofChange Rows.bddBuildSpec) false w args)
      (Rows.bddBuildSpec.post enc Tryz.prog Tryz.f4 false true false false) := by
  refine returnsInHanded_of_change_and (C := Tryz.checked) (X := fun w _ => laidMetH Tryz.prog Rows.bddBuildRow.laid w) (fun _ _ _ hh h => h.of_heap hh) Tryz.own started (by kernel_rfl) Tryz.func4
    (ChangeSpec.witness_shaped (enc := enc) (C := Tryz.checked) (os := os) (X := fun w _ => laidMetH Tryz.prog Rows.bddBuildRow.laid w) false (World.laidAll Tryz.prog os Rows.bddBuildRow.laid) #[.slice none 0 0, .slice none 0 0, .int .i64 0] 8 (World.laidAll_os _ _ _)
      (World.shaped_of_ZipB (by kernel_rfl) (by kernel_rfl)) (by kernel_rfl) (by kernel_rfl) (by kernel_rfl)
      (by rw [MakeChecks.laidMetH_plain _ _ _ (by kernel_rfl)]; exact laidMet_laidAll _ (by kernel_rfl) (by kernel_rfl))) ?_
  intro W base args ds gs before hval0 hW hc hweigh hL _
  have hval : ∀ (j : Nat) t v, Tryz.f4.params[j]? = some t → args[j]? = some v → Value.okWide Tryz.prog W .any base t v := hval0
  have hW' := hW
  obtain ⟨p, q, hA0, hV, rfl, _, _⟩ := hW
  have hA : DataW.TrodAll enc Tryz.prog W 0 (fun _ => true) true Tryz.f4.params.toList args.toList ds p := hA0
  have hA1 := hA
  rw [Tryz.params4] at hA hval
  obtain ⟨v0, v1, v2, d0, d1, d2, p0, p1, p2, rfl, rfl, rfl, h0, h1, h2⟩ := trodAll_three hA
  obtain ⟨rfl, rfl⟩ := trodVars_none hV
  simp only [List.append_nil] at hW'
  obtain ⟨n0, o0, g0, ko0, zo0, R0⟩ := DE.V.rd_rowsArg (dp := DE.dp) (hval 0 22 v0 rfl rfl) h0
  obtain ⟨a1, k1, R1⟩ := DE.V.rd_annArg (dp := DE.dp) (hval 1 49 v1 rfl rfl) h1
  obtain ⟨a2, k2, R2⟩ := DE.V.rd_intArg (dp := DE.dp) (hval 2 3 v2 rfl rfl) h2
  obtain ⟨S', hcall⟩ := DE.V.law4 n0 o0 a1 a2 g0 ko0 k1 k2
  refine DE.sound 4 DE.d4 _ [] _ S' rfl hcall (DE.V.there W) [] W #[v0, v1, v2] (DE.V.sim0 W) ⟨rfl, ?_⟩ _ ?_
  · intro j v d hv hd
    match j with
    | 0 => simp at hv hd; subst hv hd; exact R0
    | 1 => simp at hv hd; subst hv hd; exact R1
    | 2 => simp at hv hd; subst hv hd; exact R2
    | j + 3 => simp at hv
  · intro v W' F' G' _ hE hR
    cases hR
    have hb := below_ext hE
    refine ⟨_, rfl, _, _, _, [], _, [], hW', trodAll_mk1 (shut_bool Tryz.underlying4 _), trodAll_below hb _ _ _ _ ?_ hA1 (fun x hx => by simpa using hW'.lt x hx), rfl, hb.frame _, fun h => by cases h⟩
    intro t ht
    rw [Tryz.params4] at ht
    have := List.all_eq_true.1 bddBuild_types t (by simpa using ht)
    simpa using this

theorem bddBuild_holds : Rows.BddBuildSaid :=
  OpenClaim.holds_of_wide 4 Tryz.f4 rfl rfl rfl rfl rfl rfl rfl ⟨rfl, rfl, rfl, rfl, rfl⟩ rfl rfl rfl rfl rfl (by kernel_rfl) Tryz.func4 (by kernel_rfl)
    (of_decide_eq_true (by kernel_rfl)) (by unfold Func.isWrapper; first | (rw [if_pos (by decide +kernel)]; kernel_rfl) | (rw [if_neg (by decide +kernel)]; exact ⟨rfl, rfl⟩))
    (fun os started H enc _ => bddBuild_lifted os started H enc)

/-- The tied card of the law BddBuild. -/
theorem bddBuild_card_holds : Rows.BddBuildCardSaid :=
  Claim7.holds_tied_plain_at .later [] [.data, .data, .data] true (true, "9991faf1e46fd328a4b66f75ff9b3b8a0c34187670280177c121cf7b963e3a03") false bddBuild_holds (fun _ h => by cases h) (by kernel_rfl) (fun _ h => by cases h) bddBuild_row_tie rfl ⟨rfl, rfl⟩ (by kernel_rfl) rfl
    (fun f fn hf hfn => by
      obtain rfl : f = 4 := Option.some.inj ((show Tryz.prog.funcNamed "lineage/lineagelaw11.BddBuild" = some 4 by kernel_rfl).symm.trans hf) |>.symm
      obtain rfl : fn = Tryz.f4 := (Option.some.inj (Tryz.func4.symm.trans hfn)).symm
      exact ⟨by kernel_rfl, fun j t ht => by
        rw [Tryz.params4] at ht
        have hm : t ∈ [22, 49, 3] := by simpa using Array.mem_of_getElem? ht
        have hall : ([22, 49, 3].all fun u => !Tryz.prog.wantsStandIn u) = true := by kernel_rfl
        exact (show Tryz.prog.wantsStandIn t = false by simpa using List.all_eq_true.1 hall t hm)⟩)
    (by kernel_rfl)
#print axioms bddBuild_card_holds
end Go.Proofs.YtjlmeikcfdanmaaGreatDoor
