/-
  SEVERAL TEXTS IN ONE (joined by tools/asm3.py of this repository): Hw.
-/
import Derived.Test.YtjniafcnjbbomaaGreatDoorQw12
import Derived.Test.YtjniafcnjbbomaaGreatDoorQw19
import Derived.Test.YtjniafcnjbbomaaGreatDoorTie
import Derived.Test.YtjniafcnjbbomaaGreatDoorCards
import Derived.SevenTiedAt
import Derived.Lay
import Derived.Clock
set_option linter.unusedVariables false
set_option linter.unusedSimpArgs false
namespace Go.Proofs.YtjniafcnjbbomaaGreatDoor
open Go.ChangeShapes Go.WideShapes Go.ChangeAt Go.RowKit
set_option maxRecDepth 100000

theorem Tryz.own : ownKnob Tryz.prog.godebug = none := by kernel_rfl
theorem Tryz.laidOut : laidOutB Tryz.prog = true := by kernel_rfl

theorem trodAll_below {H : Type} {enc : TypeId × Value → H} {W W' : World} (hb : Below W.heap.size W W') : ∀ (ts : List TypeId) (vs : List Value) (ds : List (DataW H)) (ps : List MemPlace),
    (∀ t ∈ ts, Tryz.prog.readableRec t = true ∧ t < Tryz.prog.types.size) → DataW.TrodAll enc Tryz.prog W 0 (fun _ => true) true ts vs ds ps → (∀ x ∈ ps, x.block < W.heap.size) →
    DataW.TrodAll enc Tryz.prog W' 0 (fun b => decide (b < W.heap.size)) true ts vs ds ps
  | [], [], [], _, _, h, _ => h
  | t :: ts, v :: vs, d :: ds, ps, hr, h, hlt => by
    obtain ⟨p, q, h1, h2, rfl⟩ := h
    exact ⟨p, q, Below.trod Tryz.laidOut (hr t (by simp)).1 (hr t (by simp)).2 h1 hb (fun x hx => hlt x (List.mem_append_left _ hx)),
      trodAll_below hb ts vs ds q (fun t ht => hr t (List.mem_cons_of_mem _ ht)) h2 (fun x hx => hlt x (List.mem_append_right _ hx)), rfl⟩

theorem below_ext {F F' : DE.Fix} {G' : List DE.Gh} {W W' : World} {S' : DE.Store} (e : DE.Ext F [] W [] F' G' W' S') : Below W.heap.size W W' :=
  ⟨e.os, e.tape, e.output, e.size, fun b hb => e.frame b hb (DE.not_owns b)⟩

theorem DE.stripT_b_inv {d : DE.D} {c : Bool} (h : DE.stripT d = .b c) : d = .b c := by
  cases d <;> first | exact h | (simp [DE.stripT, DE.strip] at h)

theorem DE.call_of_iso {g : Nat} {args : List DE.D} {c : Bool} (h : DE.isoCall (DE.call DE.dp) g args = some (.b c)) (hs : DE.stripL args = args) : ∃ S', DE.call DE.dp g args [] = some (.b c, S') := by
  simp only [DE.isoCall] at h
  rw [hs] at h
  cases hc : DE.call DE.dp g args [] with
  | none => rw [hc] at h; split at h <;> cases h
  | some p =>
    obtain ⟨d, S'⟩ := p
    rw [hc] at h
    simp only at h
    split at h
    · split at h
      · injection h with h
        exact ⟨S', by rw [DE.stripT_b_inv h]⟩
      · cases h
    · cases h

theorem probabilityWorlds_types : ([26, 40, 22].all fun t => Tryz.prog.readableRec t && decide (t < Tryz.prog.types.size)) = true := by kernel_rfl

theorem probabilityWorlds_lifted (os : Os) (started : os.Started) (H : Type) (enc : TypeId × Value → H) (F : Stop.Interp) :
    ReturnsInHanded { calm := true } Tryz.checked os 4 .any (fun w args => (Rows.probabilityWorldsSpec.pre enc Tryz.prog Tryz.f4 Rows.probabilityWorldsRow.domain false w args ∧ laidMetH Tryz.prog Rows.probabilityWorldsRow.laid w) ∧ sizedMet enc Tryz.prog Tryz.f4 (OpenSpec.ofChange Rows.probabilityWorldsSpec) false w args)
      ((OpenSpec.ofChange Rows.probabilityWorldsSpec).postWith enc Tryz.prog Tryz.f4 F (outsideKept [.timePasses]) false true false) := by
  refine Go.Clock.returns_of_change (C := Tryz.checked) (X := fun w _ => laidMetH Tryz.prog Rows.probabilityWorldsRow.laid w) (fun _ _ _ hh h => h.of_heap hh) Tryz.own started (by kernel_rfl) Tryz.func4
    (Go.Clock.witness_at (enc := enc) (C := Tryz.checked) (os := os) (X := fun w _ => laidMetH Tryz.prog Rows.probabilityWorldsRow.laid w) (World.laidAll Tryz.prog os Rows.probabilityWorldsRow.laid) #[.slice none 0 0, .agg #[.int .i64 0, .int .i64 0], .slice none 0 0] 8 (World.laidAll_os _ _ _)
      (World.shaped_of_ZipB (by kernel_rfl) (by kernel_rfl)) (by kernel_rfl) (by kernel_rfl) (by kernel_rfl)
      (by rw [MakeChecks.laidMetH_plain _ _ _ (by kernel_rfl)]; exact laidMet_laidAll _ (by kernel_rfl) (by kernel_rfl))) ?_
  intro W base args ds gs before hval0 hW hc hweigh hL _
  have hval : ∀ (j : Nat) t v, Tryz.f4.params[j]? = some t → args[j]? = some v → Value.okWide Tryz.prog W .any base t v := hval0
  have hW' := hW
  obtain ⟨p, q, hA0, hV, rfl, _, _⟩ := hW
  have hA : DataW.TrodAll enc Tryz.prog W 0 (fun _ => true) true Tryz.f4.params.toList args.toList ds p := hA0
  have hA1 := hA
  rw [Tryz.params4] at hA hval
  obtain ⟨v0, v1, v2, d0, d1, d2, p0, p1, p2, rfl, rfl, rfl, h0, h1, h2⟩ := trodAll_three hA
  obtain ⟨rfl, rfl⟩ := trodVars_none hV
  simp only [List.append_nil] at hW'
  obtain ⟨n0, l0, g0, k0, m0, R0⟩ := DE.V.rd_chsArg (dp := DE.dp) (hval 0 26 v0 rfl rfl) h0
  obtain ⟨a1, k1, R1⟩ := DE.V.rd_rowArg (dp := DE.dp) (hval 1 40 v1 rfl rfl) h1
  obtain ⟨n2, o2, g2, ko2, zo2, R2⟩ := DE.V.rd_rowsArg (dp := DE.dp) (hval 2 22 v2 rfl rfl) h2
  obtain ⟨S', hcall⟩ := DE.call_of_iso (DE.V.law4 n0 n2 l0 a1 o2 (fun c hc => ⟨(k0 c hc).2.2.1, (k0 c hc).2.2.2, (k0 c hc).1, (k0 c hc).2.1⟩) m0) rfl
  refine DE.sound 4 DE.d4 _ [] _ S' rfl hcall (DE.V.there W) [] W #[v0, v1, v2] (DE.V.sim0 W) ⟨rfl, ?_⟩ _ ?_
  · intro j v d hv hd
    match j with
    | 0 => simp at hv hd; subst hv hd; exact R0
    | 1 => simp at hv hd; subst hv hd; exact R1
    | 2 => simp at hv hd; subst hv hd; exact R2
    | j + 3 => simp at hv
  · intro v W' F' G' _ hE hR
    cases hR
    have hb := below_ext hE
    have hos : ({ W' with os := W.os } : World) = W' := by rw [← hE.os]
    refine ⟨_, rfl, ?_, by rw [hE.os]; exact Go.Clock.Later.refl _⟩
    rw [hos]
    refine ⟨_, _, _, [], _, [], hW', trodAll_mk1 (shut_bool Tryz.underlying4 _), trodAll_below hb _ _ _ _ ?_ hA1 (fun x hx => by simpa using hW'.lt x hx), rfl, hb.frame _, fun h => by cases h⟩
    intro t ht
    rw [Tryz.params4] at ht
    have := List.all_eq_true.1 probabilityWorlds_types t (by simpa using ht)
    simpa using this

end Go.Proofs.YtjniafcnjbbomaaGreatDoor
