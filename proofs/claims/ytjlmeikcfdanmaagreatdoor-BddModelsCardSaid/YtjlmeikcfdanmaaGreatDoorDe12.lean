/-
  LITERALS AND NEW VARIABLES.
-/
import Derived.Test.YtjlmeikcfdanmaaGreatDoorDe11
import Derived.Great.BuildSlice
import Derived.Laws.Externs
namespace Go.Proofs.YtjlmeikcfdanmaaGreatDoor.DE
open Go

section
variable {P : Program} {dp : Nat → Option Fn} {F F' : Fix} {G G' : List Gh} {w w' : World} {S S' : Store} {a : Act} {fr : List D} {o : Oper} {d : D}

def CellsOk (dp : Nat → Option Fn) (F : Fix) (G : List Gh) (w : World) (vs : Array Value) (z : List D) : Prop :=
  vs.size = z.length ∧ ∀ (j : Nat) (v : Value) (d : D), vs[j]? = some v → z[j]? = some d → Rel dp F G w v d

theorem fset_getElem? : ∀ (l : List D) (n j : Nat) (x : D), (fset l n x)[j]? = if j = n ∧ n < l.length then some x else l[j]?
  | [], n, j, x => by simp [fset]
  | d :: l, 0, 0, x => by simp [fset]
  | d :: l, 0, j + 1, x => by simp [fset]
  | d :: l, n + 1, 0, x => by simp [fset]
  | d :: l, n + 1, j + 1, x => by simp only [fset, List.getElem?_cons_succ, fset_getElem? l n j x]; simp

theorem CellsOk.set {vs : Array Value} {z : List D} (h : CellsOk dp F G w vs z) (n : Nat) {v : Value} {d : D} (hv : Rel dp F G w v d) : CellsOk dp F G w (vs.setIfInBounds n v) (fset z n d) := by
  refine ⟨by simp [fset_length, h.1], fun j u e hu he => ?_⟩
  rw [fset_getElem?] at he
  by_cases hj : j = n
  · subst hj
    by_cases hlt : j < z.length
    · rw [if_pos ⟨rfl, hlt⟩] at he
      injection he with he; subst he
      rw [Array.getElem?_setIfInBounds_self_of_lt (by rw [h.1]; exact hlt)] at hu
      injection hu with hu; subst hu
      exact hv
    · rw [if_neg (fun h => hlt h.2)] at he
      have := (List.getElem?_eq_some_iff.1 he).1
      omega
  · rw [if_neg (fun h => hj h.1)] at he
    rw [Array.getElem?_setIfInBounds_ne (Ne.symm hj)] at hu
    exact h.2 j u e hu he

theorem splice_length : ∀ (ds z : List D) (o : Nat), (splice z o ds).length = z.length
  | [], _, _ => rfl
  | d :: ds, z, o => by simp only [splice]; rw [splice_length ds, fset_length]

theorem CellsOk.splice {off : Nat} : ∀ {l : List Value} {ds : List D} {n : Nat} {vs : Array Value} {z : List D}, l.length = ds.length → CellsOk dp F G w vs z →
    (∀ (j : Nat) (v : Value) (d : D), l[j]? = some v → ds[j]? = some d → Rel dp F G w v d) →
    CellsOk dp F G w ((l.zipIdx n).foldl (fun cs (x : Value × Nat) => cs.setIfInBounds (off + x.2) x.1) vs) (splice z (off + n) ds)
  | [], [], _, _, _, _, h, _ => h
  | [], _ :: _, _, _, _, hl, _, _ => by simp at hl
  | _ :: _, [], _, _, _, hl, _, _ => by simp at hl
  | v :: l, d :: ds, n, vs, z, hl, h, hr => by
    simp only [List.zipIdx_cons, List.foldl_cons, DE.splice]
    rw [Nat.add_assoc]
    exact CellsOk.splice (l := l) (ds := ds) (n := n + 1) (by simpa using hl) (h.set _ (hr 0 v d rfl rfl)) fun j u e hu he => hr (j + 1) u e (by simpa using hu) (by simpa using he)

theorem fold_arr {off : Nat} (xs vs : Array Value) : (xs.zipIdx.foldl (fun cs (c, j) => cs.setIfInBounds (off + j) c) vs) = ((xs.toList.zipIdx 0).foldl (fun cs (x : Value × Nat) => cs.setIfInBounds (off + x.2) x.1) vs) := by
  rw [← Array.foldl_toList, Array.toList_zipIdx]

theorem size_fold {off : Nat} : ∀ (l : List (Value × Nat)) (vs : Array Value), (l.foldl (fun cs (x : Value × Nat) => cs.setIfInBounds (off + x.2) x.1) vs).size = vs.size
  | [], _ => rfl
  | x :: l, vs => by simp only [List.foldl_cons]; rw [size_fold l]; simp

theorem mT_k {t : TypeId} {k : Nat} {g : Bool} (h : mT P t k g = true) : (if g then k else 1) = k := by
  cases g
  · have := (run_isAgg_of h (w := default)).2 rfl
    simp [this]
  · simp

theorem mT_size {t : TypeId} {k : Nat} {g : Bool} (h : mT P t k g = true) : ∃ i, P.info? t = some i ∧ i.size = k := by
  have := mT_sz h
  unfold mSz at this
  split at this
  · rename_i i hi
    exact ⟨i, hi, by simpa using this⟩
  · cases this

theorem fill_parts {place : Nat → Option (Nat × Nat)} {places : List (Nat × TypeId)} (hf : Fr dp F G w a fr)
    (hp : ∀ i off t k g, places[i]? = some (off, t) → mT P t k g = true → place i = some (off, k)) :
    ∀ {parts : List (Nat × Operand)} {ps : List (Nat × Nat × Bool × A)} {cells : Array Value} {z cs : List D}, mParts P dp places parts ps = true → bldD fr z ps = some cs → CellsOk dp F G w cells z →
    ∃ cells', Instr.fill place cells (parts.map fun (i, x) => (i, a.eval x)) = some cells' ∧ CellsOk dp F G w cells' cs
  | [], [], cells, z, cs, _, hb, h => by
    simp only [bldD] at hb
    injection hb with hb; subst hb
    exact ⟨cells, rfl, h⟩
  | [], _ :: _, _, _, _, hm, _, _ => by simp [mParts] at hm
  | _ :: _, [], _, _, _, hm, _, _ => by simp [mParts] at hm
  | (i, x) :: parts, (off, k, g, y) :: ps, cells, z, cs, hm, hb, h => by
    simp only [mParts, Bool.and_eq_true] at hm
    obtain ⟨⟨h1, h2⟩, h3⟩ := hm
    split at h1
    · rename_i off' t ho
      simp only [Bool.and_eq_true, beq_iff_eq] at h1
      obtain ⟨rfl, hT⟩ := h1
      simp only [bldD] at hb
      split at hb
      · rename_i ds hds
        split at hb
        · rename_i hle
          obtain ⟨l1, l2, l3⟩ := cellsK_rel (hf.eval h2) hds
          rw [mT_k hT] at l1
          have hst := CellsOk.splice (dp := dp) (F := F) (G := G) (w := w) (off := off') (n := 0) (l := (a.eval x).cells.toList) (ds := ds) (by simpa using l2) h
            (fun j v d hv hd => (l3 j v d (by simpa using hv) hd).1)
          rw [Nat.add_zero] at hst
          obtain ⟨cells', hc, hok⟩ := fill_parts hf hp h3 hb hst
          refine ⟨cells', ?_, hok⟩
          have hsz : ¬ ((a.eval x).cells.size ≠ k ∨ off' + (a.eval x).cells.size > cells.size) := by
            rw [l2, l1, h.1]; omega
          simp only [List.map_cons, Instr.fill, hp i off' t k g ho hT]
          rw [if_neg (by simpa using hsz), fold_arr]
          exact hc
        · cases hb
      · cases hb
    · cases h1

theorem mZ_zero {t : TypeId} {z : List D} (h : mZ P t z = true) : ∃ i v, P.info? t = some i ∧ i.zero = some v ∧ CellsOk dp F G w v.cells z ∧ ∀ u ∈ v.cells.toList, u.oneCell' = true := by
  unfold mZ at h
  split at h
  · rename_i i hi
    split at h
    · rename_i v hv
      simp only [Bool.and_eq_true, List.all_eq_true] at h
      refine ⟨i, v, hi, hv, ⟨?_, fun j u e hu he => mV1_rel (mVL_get h.1 (by simpa using hu) he)⟩, h.2⟩
      have := mVL_length h.1
      simpa using this
    · cases h
  · cases h

theorem pur_bld {z : List D} {ps : List (Nat × Nat × Bool × A)} {cs : List D} (hm : mR P dp o.op (.bld z ps) = true) (hf : Fr dp F G w a fr) (he : bldD fr z ps = some cs) : Pur P dp F G w a o (.agg cs) := by
  simp only [mR] at hm
  split at hm
  · rename_i t parts ho
    simp only [Bool.and_eq_true] at hm
    obtain ⟨hz, hm⟩ := hm
    obtain ⟨i, v, hi, hv, hok, _⟩ := mZ_zero (P := P) (dp := dp) (F := F) (G := G) (w := w) hz
    have fin : ∀ cells', P.built t (parts.map fun (i, x) => (i, a.eval x)).toList = some cells' → CellsOk dp F G w cells' cs → Pur P dp F G w a o (.agg cs) := by
      intro cells' hb hc
      refine ⟨.agg cells', ?_, .agg _ _ hc.1 hc.2⟩
      simp only [execOp, ho, Sem.run_bind, run_build w t _ cells' hb, Result.andThen, Sem.run_pure]
    split at hm
    · rename_i fs hu
      simp only [Bool.and_eq_true, List.all_eq_true] at hm
      obtain ⟨hall, hm⟩ := hm
      have hplaces : fs.toList.mapM (fun f => (P.info? f.type).map fun i => (f.offset, i.size)) = some (fs.toList.map fun f => (f.offset, ((P.info? f.type).map (·.size)).getD 0)) := by
        generalize fs.toList = l at hall
        clear hm
        induction l with
        | nil => rfl
        | cons f l ih =>
          have h1 := hall f (by simp)
          obtain ⟨j, hj⟩ := Option.isSome_iff_exists.1 h1
          simp only [List.mapM_cons, hj, ih fun x hx => hall x (by simp [hx])]
          simp [hj]
      obtain ⟨cells', h1, h2⟩ := fill_parts (P := P) (place := fun i => (fs.toList.map fun f => (f.offset, ((P.info? f.type).map (·.size)).getD 0)).toArray[i]?) hf (fun i off t k g h1 h2 => by
        obtain ⟨j, hj, hk⟩ := mT_size h2
        simp only [List.getElem?_toArray]
        rw [List.getElem?_map] at h1 ⊢
        cases hfi : fs.toList[i]? with
        | none => simp [hfi] at h1
        | some f =>
          simp only [hfi, Option.map_some, Option.some.injEq, Prod.mk.injEq] at h1
          obtain ⟨e1, e2⟩ := h1
          subst e1 e2
          simp [hj, hk]) hm he hok
      refine fin cells' ?_ h2
      simp only [Program.built, hi, hu, hv, hplaces]
      simpa using h1
    · rename_i n e hu
      split at hm
      · rename_i ie hie
        obtain ⟨cells', h1, h2⟩ := fill_parts (P := P) (place := fun i => some (i * ie.size, ie.size)) hf (fun i off t k g h1 h2 => by
          obtain ⟨j, hj, hk⟩ := mT_size h2
          rw [List.getElem?_map] at h1
          cases hr : (List.range n)[i]? with
          | none => simp [hr] at h1
          | some q =>
            obtain ⟨hlt, hq⟩ := List.getElem?_eq_some_iff.1 hr
            simp at hq
            simp only [hr, Option.map_some, Option.some.injEq, Prod.mk.injEq] at h1
            obtain ⟨e1, e2⟩ := h1
            subst e2 e1 hq
            rw [hie] at hj
            injection hj with hj
            rw [hj, hk]) hm he hok
        refine fin cells' ?_ h2
        simp only [Program.built, hi, hu, hv, hie]
        simpa using h1
      · cases hm
    · cases hm
  · cases hm

theorem cell_new {x : Array Value} {T : TypeId} {f : Nat × Nat} (hg : Grown w (.cells x T f) w') (o : Nat) : w'.cell? ⟨w.heap.size, o, none⟩ = x[o]? := by
  simp [World.cell?, hg.new]

theorem CellsOk.ext {vs : Array Value} {z : List D} (h : CellsOk dp F G w vs z) (hF : ∀ b o, F b o → F' b o) (hG : ∀ id g, sget G id = some g → sget G' id = some g)
    (hw : ∀ b o, F b o → w'.cell? ⟨b, o, none⟩ = w.cell? ⟨b, o, none⟩) : CellsOk dp F' G' w' vs z := ⟨h.1, fun j v d hv hd => (h.2 j v d hv hd).mono hF hG hw⟩

def CellsLe (dp : Nat → Option Fn) (F : Fix) (G : List Gh) (w : World) (vs : Array Value) (z : List D) : Prop :=
  z.length ≤ vs.size ∧ ∀ (j : Nat) (v : Value) (d : D), vs[j]? = some v → z[j]? = some d → Rel dp F G w v d

theorem CellsOk.le {vs : Array Value} {z : List D} (h : CellsOk dp F G w vs z) : CellsLe dp F G w vs z := ⟨Nat.le_of_eq h.1.symm, h.2⟩

theorem CellsLe.ext {vs : Array Value} {z : List D} (h : CellsLe dp F G w vs z) (hF : ∀ b o, F b o → F' b o) (hG : ∀ id g, sget G id = some g → sget G' id = some g)
    (hw : ∀ b o, F b o → w'.cell? ⟨b, o, none⟩ = w.cell? ⟨b, o, none⟩) : CellsLe dp F' G' w' vs z := ⟨h.1, fun j v d hv hd => (h.2 j v d hv hd).mono hF hG hw⟩

/-- A new variable. -/
theorem Sim.pushBox (hs : Sim dp F G w S) {vs : Array Value} {T : TypeId} {z : List D} (hg : Grown w (.cells vs T (0, 0)) w') (h : CellsLe dp F G w vs z) (h1 : ∀ u ∈ vs.toList, u.oneCell' = true)
    {S0 : Store} (hl0 : S0.length = S.length) (h0 : ∀ id e, sget S0 id = some e → sget S id = some e ∨ ¬ holds e) :
    Sim dp F (⟨w.heap.size, 0, 0⟩ :: G) w' (.box z :: S0) ∧ Ext F G w S F (⟨w.heap.size, 0, 0⟩ :: G) w' (.box z :: S0) := by
  refine hs.push hg hl0 h0 ⟨w.heap.size, 0, 0⟩ rfl (.box z) (fun _ _ h => h) (fun _ _ h => .inl h) ⟨vs, T, hg.new, h.1, fun o ho => ?_, h1, ?_⟩
  · have := hs.fix_lt ho
    simp at this
  · exact (h.ext (fun _ _ h => h) (fun id g h => by rw [sget_cons _ _ _ (sget_lt h)]; exact h) fun b o hF => hg.cell (hs.fix_lt hF)).2

theorem top_bx {S0 : Store} (hs : Sim dp F G w S) (hl0 : S0.length = S.length) {g : Gh} {w1 : World} {F1 : Fix} (o : Nat) : Rel dp F1 (g :: G) w1 (.pointer (some ⟨g.blk, o, none⟩)) (.bx S0.length o) :=
  .bx _ _ _ (by rw [hl0, ← hs.len, sget_top])

theorem ok_alloc {z : List D} (hm : mR P dp o.op (.alloc z) = true) (hs : Sim dp F G w S) : OpOk P dp F G w S a o (.bx S.length 0) (.box z :: S) := by
  simp only [mR] at hm
  split at hm
  · rename_i t ho
    obtain ⟨i, v, hi, hv, hok, h1⟩ := mZ_zero (P := P) (dp := dp) (F := F) (G := G) (w := w) hm
    refine opOk_value (v := .pointer (some ⟨w.heap.size, 0, none⟩)) (w' := w.alloc (.cells v.cells t)) ?_ (hs.pushBox (grown_alloc _ _) hok.le h1 rfl fun _ _ h => .inl h) (top_bx hs rfl 0)
    simp only [execOp, ho, Instr.alloc, zeroValue, typeInfo, hi, hv, newVar, newRow, Sem.run_bind, run_program, Sem.run_pure, Result.andThen, run_newObj_alloc]
  · cases hm

theorem cellsK_ok {k : Nat} {g : Bool} {v : Value} {cs : List D} (h : Rel dp F G w v d) (hc : cellsK k g d = some cs) : CellsOk dp F G w v.cells cs ∧ ∀ u ∈ v.cells.toList, u.oneCell' = true := by
  obtain ⟨l1, l2, l3⟩ := cellsK_rel h hc
  refine ⟨⟨l2, fun j v d hv hd => (l3 j v d hv hd).1⟩, fun u hu => ?_⟩
  obtain ⟨j, hj, rfl⟩ := List.getElem_of_mem hu
  have hj' : j < cs.length := by rw [← l2]; simpa using hj
  obtain ⟨a, b⟩ := l3 j v.cells.toList[j] cs[j] (by rw [← Array.getElem?_toList]; exact List.getElem?_eq_getElem hj) (List.getElem?_eq_getElem hj')
  exact (rel_oneCell a b).1

theorem ok_box {k : Nat} {g : Bool} {x : A} {cs : List D} (hm : mR P dp o.op (.box k g x) = true) (hs : Sim dp F G w S) (hf : Fr dp F G w a fr) (he : cellsK k g (av fr x) = some cs) :
    OpOk P dp F G w S a o (.bx S.length 0) (.box cs :: S) := by
  simp only [mR] at hm
  split at hm
  · rename_i t y ho
    simp only [Bool.and_eq_true] at hm
    obtain ⟨hok, h1⟩ := cellsK_ok (hf.eval hm.2) he
    refine opOk_value (v := .pointer (some ⟨w.heap.size, 0, none⟩)) (w' := w.alloc (.cells (a.eval y).cells t)) ?_ (hs.pushBox (grown_alloc _ _) hok.le h1 rfl fun _ _ h => .inl h) (top_bx hs rfl 0)
    simp only [execOp, ho, Instr.box, newVar, newRow, Sem.run_bind, Sem.run_pure, Result.andThen, run_newObj_alloc]
  · cases hm

theorem ok_mkmap (hm : mR P dp o.op .mkmap = true) (hs : Sim dp F G w S) : OpOk P dp F G w S a o (.mp S.length) (.map [] :: S) := by
  simp only [mR] at hm
  split at hm
  · rename_i t ho
    refine opOk_value (v := .map (some w.heap.size)) (w' := w.alloc (.map #[] 0)) ?_ (hs.push (grown_alloc _ _) rfl (fun _ _ h => .inl h) ⟨w.heap.size, 0, 0⟩ rfl (.map []) (fun _ _ h => h) (fun _ _ h => .inl h)
      ⟨#[], (grown_alloc w _).new, rfl, fun j e d h => by simp at h⟩) (.mp _ ⟨w.heap.size, 0, 0⟩ (by rw [← hs.len, sget_top]))
    simp only [execOp, ho, Instr.makeMap, Option.map_none, Sem.run_bind, Sem.run_pure, Result.andThen, run_newObj_alloc]
  · cases hm

end

end Go.Proofs.YtjlmeikcfdanmaaGreatDoor.DE
