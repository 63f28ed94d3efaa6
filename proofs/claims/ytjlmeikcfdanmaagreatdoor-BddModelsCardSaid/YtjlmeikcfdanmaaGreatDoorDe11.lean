/-
  STEPS OF THE STORE AND THE WORLD: new variables, new rows, writings.
-/
import Derived.Test.YtjlmeikcfdanmaaGreatDoorDe10
import Derived.Laws.OwnMore
namespace Go.Proofs.YtjlmeikcfdanmaaGreatDoor.DE
open Go

section
variable {P : Program} {dp : Nat → Option Fn} {F F' : Fix} {G G' : List Gh} {w w' : World} {S S' : Store} {a : Act} {fr : List D} {o : Oper} {d : D}

theorem heap_lt {b : Nat} {x : Obj} (h : w.heap[b]? = some x) : b < w.heap.size := (Array.getElem?_eq_some_iff.1 h).1

theorem Sim.lt (hs : Sim dp F G w S) {id : Nat} {e : Ent} {g : Gh} (h1 : sget S id = some e) (h2 : sget G id = some g) (hh : holds e) : g.blk < w.heap.size := by
  have := hs.ent id e g h1 h2
  cases e with
  | box cs => obtain ⟨vs, T, h, _⟩ := this; exact heap_lt h
  | tok al =>
    cases al with
    | true => obtain ⟨vs, T, h, _⟩ := this; exact heap_lt h
    | false => exact hh.elim
  | map es => obtain ⟨vs, h, _⟩ := this; exact heap_lt h
  | gone => exact hh.elim

theorem Sim.fix_lt (hs : Sim dp F G w S) {b o : Nat} (h : F b o) : b < w.heap.size := by
  obtain ⟨v, hv⟩ := hs.fcell b o h
  exact World.block_lt_of_cell? w _ hv

theorem EntOk.keep {T : Nat → Prop} {g : Gh} {e : Ent} (h : EntOk dp F G w g e) (hh : holds e) (hG : ∀ id g, sget G id = some g → sget G' id = some g)
    (hF : ∀ b o, F b o → F' b o) (hcell : ∀ b o, F b o → w'.cell? ⟨b, o, none⟩ = w.cell? ⟨b, o, none⟩)
    (hnew : ∀ b o, F' b o → F b o ∨ (T b ∧ ∃ v, w'.cell? ⟨b, o, none⟩ = some v)) (hb : w'.heap[g.blk]? = w.heap[g.blk]?) (hT : ¬ T g.blk) : EntOk dp F' G' w' g e := by
  have hn : ∀ o, F' g.blk o → F g.blk o := fun o h => (hnew _ _ h).resolve_right fun h => hT h.1
  cases e with
  | box cs =>
    obtain ⟨vs, T, h1, h2, h3, h4, h5⟩ := h
    exact ⟨vs, T, hb.trans h1, h2, fun o h => h3 o (hn o h), h4, fun m v d hv hd => (h5 m v d hv hd).mono hF hG hcell⟩
  | tok al =>
    cases al with
    | true =>
      obtain ⟨vs, T, h1, h2, h3⟩ := h
      exact ⟨vs, T, hb.trans h1, h2, fun o ho h => h3 o ho (hn o h)⟩
    | false => exact hh.elim
  | map es =>
    obtain ⟨ents, h1, h2, h3⟩ := h
    exact ⟨ents, hb.trans h1, h2, fun j e d he hd => ⟨(h3 j e d he hd).1, (h3 j e d he hd).2.1.mono hF hG hcell, (h3 j e d he hd).2.2.mono hF hG hcell⟩⟩
  | gone => exact hh.elim

theorem EntOk.free {g : Gh} {e : Ent} (h : ¬ holds e) : EntOk dp F G w g e := by
  cases e with
  | box cs => exact (h trivial).elim
  | tok al =>
    cases al with
    | true => exact (h trivial).elim
    | false => trivial
  | map es => exact (h trivial).elim
  | gone => trivial

/-- One step: the blocks in T change, all else stays. -/
theorem Sim.step (T : Nat → Prop) (hs : Sim dp F G w S) (hlen : G'.length = S'.length) (hG : ∀ id g, sget G id = some g → sget G' id = some g)
    (hF : ∀ b o, F b o → F' b o) (hcell : ∀ b o, F b o → w'.cell? ⟨b, o, none⟩ = w.cell? ⟨b, o, none⟩)
    (hnew : ∀ b o, F' b o → F b o ∨ (T b ∧ ∃ v, w'.cell? ⟨b, o, none⟩ = some v))
    (hheap : ∀ b, b < w.heap.size → ¬ T b → w'.heap[b]? = w.heap[b]?)
    (hT : ∀ b, T b → Owns S G b ∨ w.heap.size ≤ b)
    (hent : ∀ id e g, sget S' id = some e → sget G' id = some g → ¬ holds e ∨ (sget S id = some e ∧ sget G id = some g ∧ ¬ T g.blk) ∨
      (T g.blk ∧ EntOk dp F' G' w' g e ∧ ∀ j e' g', j ≠ id → sget S' j = some e' → sget G' j = some g' → holds e' → ¬ T g'.blk))
    (hsize : w.heap.size ≤ w'.heap.size) (hos : w'.os = w.os) (htape : w'.tape = w.tape) (hout : w'.output = w.output) :
    Sim dp F' G' w' S' ∧ Ext F G w S F' G' w' S' := by
  refine ⟨⟨hlen, ?_, ?_, ?_⟩, ⟨hF, hG, hcell, ?_, ?_, ?_, hsize, hos, htape, hout⟩⟩
  · intro b o h
    rcases hnew b o h with h | ⟨_, h⟩
    · obtain ⟨v, hv⟩ := hs.fcell b o h
      exact ⟨v, (hcell b o h).trans hv⟩
    · exact h
  · intro id e g h1 h2
    rcases hent id e g h1 h2 with h | ⟨h3, h4, h5⟩ | ⟨_, h, _⟩
    · exact EntOk.free h
    · by_cases hh : holds e
      · exact (hs.ent id e g h3 h4).keep hh hG hF hcell hnew (hheap _ (hs.lt h3 h4 hh) h5) h5
      · exact EntOk.free hh
    · exact h
  · intro i j e e' g g' hij h1 h2 hh hh' hg hg'
    rcases hent i e g h1 hg with h | ⟨a1, a2, a3⟩ | ⟨a1, _, a3⟩
    · exact (h hh).elim
    · rcases hent j e' g' h2 hg' with h | ⟨b1, b2, b3⟩ | ⟨b1, _, b3⟩
      · exact (h hh').elim
      · exact hs.sep i j e e' g g' hij a1 b1 hh hh' a2 b2
      · intro heq
        exact a3 (heq ▸ b1)
    · intro heq
      exact a3 j e' g' (Ne.symm hij) h2 hg' hh' (heq ▸ a1)
  · intro b hb ho
    refine hheap b hb fun h => ?_
    rcases hT b h with h | h
    · exact ho h
    · omega
  · rintro b ⟨id, e, g, h1, h2, h3, rfl⟩
    rcases hent id e g h1 h3 with h | ⟨a1, a2, a3⟩ | ⟨a1, _, a3⟩
    · exact (h h2).elim
    · exact .inl ⟨id, e, g, a1, h2, a2, rfl⟩
    · exact hT _ a1
  · intro b o h
    rcases hnew b o h with h | ⟨h, _⟩
    · exact .inl h
    · exact .inr (hT b h)

/-- The world with a new block. -/
structure Grown (w : World) (x : Obj) (w' : World) : Prop where
  heap : w'.heap = w.heap.push x
  os : w'.os = w.os
  tape : w'.tape = w.tape
  output : w'.output = w.output

theorem grown_alloc (w : World) (x : Obj) : Grown w x (w.alloc x) := ⟨rfl, rfl, rfl, rfl⟩
theorem grown_drew (w : World) (x : Obj) : Grown w x (w.drew.alloc x) := ⟨rfl, rfl, rfl, rfl⟩

theorem Grown.old {x : Obj} (h : Grown w x w') {b : Nat} (hb : b < w.heap.size) : w'.heap[b]? = w.heap[b]? := by
  rw [h.heap, Array.getElem?_push, if_neg (by omega)]

theorem Grown.new {x : Obj} (h : Grown w x w') : w'.heap[w.heap.size]? = some x := by
  rw [h.heap, Array.getElem?_push, if_pos rfl]

theorem Grown.cell {x : Obj} (h : Grown w x w') {b o : Nat} (hb : b < w.heap.size) : w'.cell? ⟨b, o, none⟩ = w.cell? ⟨b, o, none⟩ :=
  World.cell?_of_block (a := ⟨b, o, none⟩) (h.old hb)

theorem Grown.size {x : Obj} (h : Grown w x w') : w'.heap.size = w.heap.size + 1 := by rw [h.heap, Array.size_push]

/-- A new variable of the store; a token may be spent. -/
theorem Sim.push (hs : Sim dp F G w S) {x : Obj} (hg : Grown w x w') {S0 : Store} (hl0 : S0.length = S.length) (h0 : ∀ id e, sget S0 id = some e → sget S id = some e ∨ ¬ holds e)
    (g : Gh) (hgb : g.blk = w.heap.size) (e : Ent) (hF : ∀ b o, F b o → F' b o) (hnew : ∀ b o, F' b o → F b o ∨ (b = w.heap.size ∧ ∃ v, w'.cell? ⟨b, o, none⟩ = some v))
    (he : EntOk dp F' (g :: G) w' g e) : Sim dp F' (g :: G) w' (e :: S0) ∧ Ext F G w S F' (g :: G) w' (e :: S0) := by
  have hlt : ∀ {j e' g'}, j ≠ S0.length → sget (e :: S0) j = some e' → sget (g :: G) j = some g' → sget S0 j = some e' ∧ sget G j = some g' := by
    intro j e' g' hj h1 h2
    simp only [sget] at h1 h2
    rw [if_neg hj] at h1
    rw [if_neg (by rw [hs.len, ← hl0]; exact hj)] at h2
    exact ⟨h1, h2⟩
  have hold : ∀ {j e' g'}, j ≠ S0.length → sget (e :: S0) j = some e' → sget (g :: G) j = some g' → holds e' → sget S j = some e' ∧ sget G j = some g' ∧ g'.blk < w.heap.size := by
    intro j e' g' hj h1 h2 hh
    obtain ⟨a, b⟩ := hlt hj h1 h2
    rcases h0 _ _ a with a | a
    · exact ⟨a, b, hs.lt a b hh⟩
    · exact (a hh).elim
  refine hs.step (fun b => b = w.heap.size) (by simp [hs.len, hl0]) (fun id g' h => by rw [sget_cons _ _ _ (sget_lt h)]; exact h) hF
    (fun b o h => hg.cell (hs.fix_lt h)) hnew (fun b hb _ => hg.old hb) (fun b h => .inr (by omega)) ?_ (by rw [hg.size]; omega) hg.os hg.tape hg.output
  intro id e' g' h1 h2
  by_cases hid : id = S0.length
  · refine .inr (.inr ?_)
    have e1 : e' = e := by rw [hid, sget_top] at h1; injection h1 with h1; exact h1.symm
    have e2 : g' = g := by rw [hid, hl0, ← hs.len, sget_top] at h2; injection h2 with h2; exact h2.symm
    rw [e1, e2]
    refine ⟨hgb, he, fun j e'' g'' hj h3 h4 hh heq => ?_⟩
    have := (hold (by omega) h3 h4 hh).2.2
    omega
  · by_cases hh : holds e'
    · obtain ⟨a, b, c⟩ := hold hid h1 h2 hh
      exact .inr (.inl ⟨a, b, by omega⟩)
    · exact .inl hh

/-- A new row that stays as it is. -/
theorem Sim.fixed (hs : Sim dp F G w S) {x : Obj} (hg : Grown w x w') (hF : ∀ b o, F b o → F' b o) (hnew : ∀ b o, F' b o → F b o ∨ (b = w.heap.size ∧ ∃ v, w'.cell? ⟨b, o, none⟩ = some v)) :
    Sim dp F' G w' S ∧ Ext F G w S F' G w' S := by
  refine hs.step (fun b => b = w.heap.size) hs.len (fun id g' h => h) hF
    (fun b o h => hg.cell (hs.fix_lt h)) hnew (fun b hb _ => hg.old hb) (fun b h => .inr (by omega)) ?_ (by rw [hg.size]; omega) hg.os hg.tape hg.output
  intro id e' g' h1 h2
  by_cases hh : holds e'
  · have := hs.lt h1 h2 hh
    exact .inr (.inl ⟨h1, h2, by omega⟩)
  · exact .inl hh

/-- The world with another block at b. -/
structure Wrote (w : World) (b : Nat) (x : Obj) (w' : World) : Prop where
  at_ : w'.heap[b]? = some x
  other : ∀ k, k ≠ b → w'.heap[k]? = w.heap[k]?
  size : w'.heap.size = w.heap.size
  os : w'.os = w.os
  tape : w'.tape = w.tape
  output : w'.output = w.output

theorem Sim.write (hs : Sim dp F G w S) {id : Nat} {e e' : Ent} {g : Gh} {x : Obj} (he : sget S id = some e) (hg : sget G id = some g) (hh : holds e) (hw : Wrote w g.blk x w')
    (hcell : ∀ o, F g.blk o → w'.cell? ⟨g.blk, o, none⟩ = w.cell? ⟨g.blk, o, none⟩)
    (hF : ∀ b o, F b o → F' b o) (hnew : ∀ b o, F' b o → F b o ∨ (b = g.blk ∧ ∃ v, w'.cell? ⟨b, o, none⟩ = some v))
    (he' : EntOk dp F' G w' g e') : Sim dp F' G w' (sset S id e') ∧ Ext F G w S F' G w' (sset S id e') := by
  refine hs.step (fun b => b = g.blk) (by rw [sset_length]; exact hs.len) (fun _ _ h => h) hF (fun b o h => ?_) hnew (fun b _ hb => hw.other b hb)
    (fun b hb => .inl ⟨id, e, g, he, hh, hg, hb.symm⟩) ?_ (by rw [hw.size]; exact Nat.le_refl _) hw.os hw.tape hw.output
  · by_cases hb : b = g.blk
    · subst hb; exact hcell o h
    · exact World.cell?_of_block (a := ⟨b, o, none⟩) (hw.other b hb)
  · intro j e'' g'' h1 h2
    rw [sget_sset] at h1
    split at h1
    · rename_i hj
      obtain ⟨rfl, hj⟩ := hj
      injection h1 with h1; subst h1
      rw [hg] at h2; injection h2 with h2; subst h2
      refine .inr (.inr ⟨rfl, he', fun i e3 g3 hij h3 h4 hh3 heq => ?_⟩)
      rw [sget_sset, if_neg (fun h => hij h.1)] at h3
      exact hs.sep i j e3 e g3 g hij h3 he hh3 hh h4 hg heq
    · rename_i hj
      by_cases hh3 : holds e''
      · refine .inr (.inl ⟨h1, h2, fun heq => ?_⟩)
        by_cases hji : j = id
        · exact hj ⟨hji, hji ▸ sget_lt h1⟩
        · exact hs.sep j id e'' e g'' g hji h1 he hh3 hh h2 hg heq
      · exact .inl hh3

/-- What an operation does, seen from both sides. -/
def OpOk (P : Program) (dp : Nat → Option Fn) (F : Fix) (G : List Gh) (w : World) (S : Store) (a : Act) (o : Oper) (d : D) (S' : Store) : Prop :=
  ∀ (next : Act → World → Prop) (Q : Exit → Act → World → Prop), (∀ v w' F' G', Sim dp F' G' w' S' → Ext F G w S F' G' w' S' → Rel dp F' G' w' v d → next (a.put o.dst v) w') → o.wp P a w next Q

theorem Pur.ok (hs : Sim dp F G w S) (h : Pur P dp F G w a o d) : OpOk P dp F G w S a o d S := by
  intro next Q hn
  obtain ⟨v, h1, h2⟩ := h
  simp only [Oper.wp, h1, Oper.upon]
  exact hn v w F G hs (Ext.refl _ _ _ _) h2

theorem opOk_value {v : Value} (h1 : (execOp a.eval o).run P w = .ok (.value v) w') (h2 : Sim dp F' G' w' S' ∧ Ext F G w S F' G' w' S') (h3 : Rel dp F' G' w' v d) : OpOk P dp F G w S a o d S' := by
  intro next Q hn
  simp only [Oper.wp, h1, Oper.upon]
  exact hn v w' F' G' h2.1 h2.2 h3

theorem opOk_skip (h1 : (execOp a.eval o).run P w = .ok .skip w') (h2 : Sim dp F' G' w' S' ∧ Ext F G w S F' G' w' S') : OpOk P dp F G w S a o (.tup []) S' := by
  intro next Q hn
  simp only [Oper.wp, h1, Oper.upon]
  exact hn undef w' F' G' h2.1 h2.2 (.tup #[] [] rfl fun j v d h => by simp at h)

end

end Go.Proofs.YtjlmeikcfdanmaaGreatDoor.DE
