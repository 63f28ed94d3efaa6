/-
  MAPS: updates; freezing; the comparison of strings.
-/
import Derived.Test.YtjlmeikcfdanmaaGreatDoorDe14
import Derived.MapKept
namespace Go.Proofs.YtjlmeikcfdanmaaGreatDoor.DE
open Go

section
variable {P : Program} {dp : Nat → Option Fn} {F F' : Fix} {G G' : List Gh} {w w' : World} {S S' : Store} {a : Act} {fr : List D} {o : Oper} {d : D}

theorem same1 {k : SK} {x y : D} {u v : Value} (n : Nat) (h : keq (.one k) x y = some true) (hu : Rel dp F G w u x) (hv : Rel dp F G w v y) : Instr.sameBits n u v = true := by
  simp only [keq] at h
  split at h
  · rename_i hc
    simp only [Bool.and_eq_true] at hc
    cases hu <;> simp only [seq1] at h <;> try (cases h; done)
    · cases hv <;> simp only at h <;> try (cases h; done)
      simpa [Instr.sameBits] using h
    · cases hv <;> simp only at h <;> try (cases h; done)
      split at h
      · rename_i hk; subst hk
        simpa [Instr.sameBits] using h
      · cases h
    · cases hv <;> simp only at h <;> try (cases h; done)
      injection h with h
      simp only [beq_iff_eq] at h
      subst h
      simp [Instr.sameBits, beq_toListBytes]
  · cases h

theorem seqL_get : ∀ {ks : List SK} {xs ys : List D}, seqL ks xs ys = some true → ∀ (j : Nat) (x y : D), xs[j]? = some x → ys[j]? = some y → ∃ k, keq (.one k) x y = some true
  | [], [], [], _, _, _, _, h, _ => by simp at h
  | [], _ :: _, _, h, _, _, _, _, _ => by simp [seqL] at h
  | [], [], _ :: _, h, _, _, _, _, _ => by simp [seqL] at h
  | _ :: _, [], _, h, _, _, _, _, _ => by simp [seqL] at h
  | _ :: _, _ :: _, [], h, _, _, _, _, _ => by simp [seqL] at h
  | k :: ks, x :: l, y :: m, h, j, x', y', hx, hy => by
    simp only [seqL] at h
    split at h
    · rename_i hc
      split at h
      · rename_i p q h1 h2
        injection h with h
        simp only [Bool.and_eq_true] at h
        obtain ⟨rfl, rfl⟩ := h
        match j with
        | 0 =>
          simp at hx hy
          subst hx hy
          exact ⟨k, by simp only [keq]; rw [if_pos hc]; exact h1⟩
        | j + 1 => exact seqL_get h2 j x' y' (by simpa using hx) (by simpa using hy)
      · cases h
    · cases h

theorem same_key {kk : KK} {x y : D} {u v : Value} (h : keq kk x y = some true) (hu : Rel dp F G w u x) (hv : Rel dp F G w v y) : Instr.sameBits 10000 u v = true := by
  cases kk with
  | one k => exact same1 _ h hu hv
  | agg ks =>
    cases x <;> simp only [keq] at h <;> try (cases h; done)
    cases y <;> simp only at h <;> try (cases h; done)
    rename_i xs ys
    obtain ⟨us, rfl⟩ := rel_agg hu
    obtain ⟨vs, rfl⟩ := rel_agg hv
    cases hu with
    | agg _ _ hl1 h1 =>
      cases hv with
      | agg _ _ hl2 h2 =>
        obtain ⟨l1, l2⟩ := seqL_length h
        show Instr.sameBits (9999 + 1) (.agg us) (.agg vs) = true
        simp only [Instr.sameBits, Bool.and_eq_true, beq_iff_eq, List.all_eq_true]
        refine ⟨by omega, ?_⟩
        rintro ⟨p, q⟩ hpq
        obtain ⟨j, hj, hz⟩ := List.getElem_of_mem hpq
        simp only [List.length_zip, Array.length_toList] at hj
        have hz' := hz
        simp only [List.getElem_zip, Prod.mk.injEq, Array.getElem_toList] at hz'
        have hx : j < xs.length := by omega
        have hy : j < ys.length := by omega
        obtain ⟨k, hk⟩ := seqL_get h j xs[j] ys[j] (List.getElem?_eq_getElem hx) (List.getElem?_eq_getElem hy)
        refine same1 (dp := dp) (F := F) (G := G) (w := w) 9999 hk (h1 j p _ ?_ (List.getElem?_eq_getElem hx)) (h2 j q _ ?_ (List.getElem?_eq_getElem hy))
        · rw [Array.getElem?_eq_getElem (by omega), hz'.1]
        · rw [Array.getElem?_eq_getElem (by omega), hz'.2]

theorem keq_symm {kk : KK} {x y : D} (h : keq kk x y = some true) : keq kk y x = some true := by
  have s1 : ∀ {x y : D}, seq1 x y = some true → seq1 y x = some true := by
    intro x y h
    unfold seq1 at h
    split at h
    · injection h with h; simp only [beq_iff_eq] at h; subst h; simp [seq1]
    · split at h
      · rename_i hk; subst hk
        injection h with h; simp only [beq_iff_eq] at h; subst h; simp [seq1]
      · cases h
    · injection h with h; simp only [beq_iff_eq] at h; subst h; simp [seq1]
    · cases h
  cases kk with
  | one k =>
    simp only [keq] at h ⊢
    split at h
    · rename_i hc
      rw [if_pos (by simpa [and_comm] using hc)]
      exact s1 h
    · cases h
  | agg ks =>
    cases x <;> simp only [keq] at h <;> try (cases h; done)
    cases y <;> simp only at h <;> try (cases h; done)
    rename_i xs ys
    simp only [keq]
    induction ks generalizing xs ys with
    | nil =>
      cases xs <;> cases ys <;> simp_all [seqL]
    | cons k ks ih =>
      cases xs with
      | nil => simp [seqL] at h
      | cons x xs =>
        cases ys with
        | nil => simp [seqL] at h
        | cons y ys =>
          simp only [seqL] at h ⊢
          split at h
          · rename_i hc
            rw [if_pos (by simpa [and_comm] using hc)]
            split at h
            · rename_i p q h1 h2
              injection h with h
              simp only [Bool.and_eq_true] at h
              obtain ⟨rfl, rfl⟩ := h
              rw [s1 h1, ih xs ys h2]
              rfl
            · cases h
          · cases h

theorem run_stays {kk : KK} {x y : D} {u v : Value} (h : keq kk x y = some true) (hu : Rel dp F G w u x) (hv : Rel dp F G w v y) : (Instr.keyThatStays v u).run P w = .ok u w := by
  simp only [Instr.keyThatStays, same_key (keq_symm h) hv hu, if_true, Sem.run_pure]

theorem run_setMap {r : Nat} {es : Array MapEntry} {c : Nat} (x : Obj) (h : w.heap[r]? = some (.map es c)) : (setObj r x).run P w = .ok () { w with heap := w.heap.setIfInBounds r x } := by
  simp only [setObj, Sem.run, h]

theorem wrote_obj {r : Nat} {x y : Obj} (h : w.heap[r]? = some y) : Wrote w r x { w with heap := w.heap.setIfInBounds r x } := by
  have hlt := heap_lt h
  exact ⟨by simp [hlt], fun k hk => by simp [Array.getElem?_setIfInBounds_ne (Ne.symm hk)], by simp, rfl, rfl, rfl⟩

/-- Writing into a map. -/
theorem Sim.writeMap (hs : Sim dp F G w S) {id : Nat} {g : Gh} {es es' : List (D × D)} {ents' : Array MapEntry} (he : sget S id = some (.map es)) (hg : sget G id = some g) (hsz : ents'.size = es'.length)
    (hp : ∀ (j : Nat) (e : MapEntry) (d : D × D), ents'[j]? = some e → es'[j]? = some d → e.born = j ∧ Rel dp F G w e.key d.1 ∧ Rel dp F G w e.val d.2) :
    ∃ w', (setObj g.blk (.map ents' es'.length)).run P w = .ok () w' ∧ (Sim dp F G w' (sset S id (.map es')) ∧ Ext F G w S F G w' (sset S id (.map es'))) ∧
      (∀ v d, Rel dp F G w v d → Rel dp F G w' v d) := by
  obtain ⟨ents, e1, e2, e3⟩ := hs.ent id _ g he hg
  have hno : ∀ o, ¬ F g.blk o := by
    intro o h
    obtain ⟨v, hv⟩ := hs.fcell _ _ h
    simp [World.cell?, e1] at hv
  have hw := wrote_obj (w := w) (x := .map ents' es'.length) e1
  have hm : ∀ v d, Rel dp F G w v d → Rel dp F G { w with heap := w.heap.setIfInBounds g.blk (.map ents' es'.length) } v d := by
    intro v d h
    refine h.mono (fun _ _ h => h) (fun _ _ h => h) fun b o h => ?_
    exact World.cell?_of_block (a := ⟨b, o, none⟩) (hw.other b fun heq => hno o (heq ▸ h))
  refine ⟨_, run_setMap _ e1, hs.write he hg trivial hw (fun o h => (hno o h).elim) (fun _ _ h => h) (fun _ _ h => .inl h)
    ⟨ents', hw.at_, hsz, fun j e d h1 h2 => ?_⟩, hm⟩
  obtain ⟨a1, a2, a3⟩ := hp j e d h1 h2
  exact ⟨a1, hm _ _ a2, hm _ _ a3⟩

theorem posD_spec {kk : KK} {key : D} : ∀ {es : List (D × D)} {j : Nat} {p : Nat}, posD kk key es j = some (some p) → ∃ k v, es[p - j]? = some (k, v) ∧ j ≤ p ∧ keq kk key k = some true
  | [], _, _, h => by simp [posD] at h
  | (k, v) :: es, j, p, h => by
    simp only [posD] at h
    split at h
    · rename_i hk
      injection h with h; injection h with h; subst h
      exact ⟨k, v, by simp, Nat.le_refl _, hk⟩
    · obtain ⟨k', v', h1, h2, h3⟩ := posD_spec h
      refine ⟨k', v', ?_, by omega, h3⟩
      rw [show p - j = (p - (j + 1)) + 1 by omega]
      exact h1
    · cases h

theorem muD_pos {kk : KK} {key v : D} : ∀ {es es' : List (D × D)} (j : Nat), muD kk key v es = some es' → ∃ p, posD kk key es j = some p ∧
    ((p = none ∧ es' = es ++ [(key, v)]) ∨ ∃ q, p = some (j + q) ∧ q < es.length ∧ es' = es.set q (key, v))
  | [], es', j, h => by
    simp only [muD] at h
    injection h with h
    exact ⟨none, rfl, .inl ⟨rfl, h.symm⟩⟩
  | (k, u) :: es, es', j, h => by
    simp only [muD] at h
    split at h
    · rename_i hk
      injection h with h
      exact ⟨some j, by simp [posD, hk], .inr ⟨0, rfl, by simp, h.symm⟩⟩
    · rename_i hk
      cases hr : muD kk key v es with
      | none => simp [hr] at h
      | some r =>
        simp only [hr, Option.map_some, Option.some.injEq] at h
        subst h
        obtain ⟨p, hp, hh⟩ := muD_pos (j + 1) hr
        refine ⟨p, by simp [posD, hk, hp], ?_⟩
        rcases hh with ⟨h1, h2⟩ | ⟨q, h1, h2, h3⟩
        · exact .inl ⟨h1, by rw [h2]; rfl⟩
        · exact .inr ⟨q + 1, by rw [h1]; congr 1; omega, by simp; omega, by rw [h3]; rfl⟩
    · cases h

theorem putD_set {key : D} : ∀ {j : Nat} {es : List (D × D)} {e : D × D}, es[j]? = some e → putD key j es = es.set j (key, e.2)
  | _, [], _, h => by simp at h
  | 0, (k, v) :: es, e, h => by simp at h; subst h; rfl
  | j + 1, x :: es, e, h => by simp only [putD, List.set_cons_succ]; rw [putD_set (by simpa using h)]

theorem valD_set {v : D} : ∀ {j : Nat} {es : List (D × D)} {e : D × D}, es[j]? = some e → valD v j es = es.set j (e.1, v)
  | _, [], _, h => by simp at h
  | 0, (k, u) :: es, e, h => by simp at h; subst h; rfl
  | j + 1, x :: es, e, h => by simp only [valD, List.set_cons_succ]; rw [valD_set (by simpa using h)]

def EntsOk (dp : Nat → Option Fn) (F : Fix) (G : List Gh) (w : World) (ents : Array MapEntry) (es : List (D × D)) : Prop :=
  ents.size = es.length ∧ ∀ (j : Nat) (e : MapEntry) (d : D × D), ents[j]? = some e → es[j]? = some d → e.born = j ∧ Rel dp F G w e.key d.1 ∧ Rel dp F G w e.val d.2

theorem EntsOk.push {ents : Array MapEntry} {es : List (D × D)} {k v : Value} {x y : D} (h : EntsOk dp F G w ents es) (hk : Rel dp F G w k x) (hv : Rel dp F G w v y) :
    EntsOk dp F G w (ents.push { key := k, val := v, born := es.length }) (es ++ [(x, y)]) := by
  refine ⟨by simp [h.1], fun j e d he hd => ?_⟩
  rw [Array.getElem?_push] at he
  by_cases hj : j = es.length
  · subst hj
    rw [if_pos h.1.symm] at he
    injection he with he; subst he
    simp at hd; subst hd
    exact ⟨rfl, hk, hv⟩
  · rw [h.1, if_neg hj] at he
    have hlt : j < es.length := by rw [← h.1]; exact (Array.getElem?_eq_some_iff.1 he).1
    rw [List.getElem?_append_left hlt] at hd
    exact h.2 j e d he hd

theorem EntsOk.modify {ents : Array MapEntry} {es : List (D × D)} {f : MapEntry → MapEntry} {q : Nat} {y : D × D} (h : EntsOk dp F G w ents es) (hq : q < es.length)
    (hf : ∀ e, ents[q]? = some e → (f e).born = e.born ∧ Rel dp F G w (f e).key y.1 ∧ Rel dp F G w (f e).val y.2) : EntsOk dp F G w (ents.modify q f) (es.set q y) := by
  refine ⟨by simp [h.1], fun j e d he hd => ?_⟩
  rw [Array.getElem?_modify] at he
  rw [List.getElem?_set] at hd
  by_cases hj : q = j
  · subst hj
    have hlt : q < ents.size := by rw [h.1]; exact hq
    have hq' := h.2 q ents[q] es[q] (Array.getElem?_eq_getElem hlt) (List.getElem?_eq_getElem hq)
    simp [hlt] at he
    simp [hq] at hd
    subst he hd
    obtain ⟨a1, a2, a3⟩ := hf ents[q] (Array.getElem?_eq_getElem hlt)
    exact ⟨by rw [a1]; exact hq'.1, a2, a3⟩
  · rw [if_neg hj] at he hd
    exact h.2 j e d he hd

theorem EntsOk.get {ents : Array MapEntry} {es : List (D × D)} (h : EntsOk dp F G w ents es) {q : Nat} {e : D × D} (hq : es[q]? = some e) : ∃ en, ents[q]? = some en ∧ en.born = q ∧ Rel dp F G w en.key e.1 ∧ Rel dp F G w en.val e.2 := by
  have hlt : q < ents.size := by rw [h.1]; exact (List.getElem?_eq_some_iff.1 hq).1
  exact ⟨ents[q], Array.getElem?_eq_getElem hlt, h.2 q _ e (Array.getElem?_eq_getElem hlt) hq⟩

theorem map_ok {id : Nat} {g : Gh} {es : List (D × D)} (hs : Sim dp F G w S) (hsg : sget S id = some (.map es)) (hg : sget G id = some g) :
    ∃ ents : Array MapEntry, w.heap[g.blk]? = some (.map ents es.length) ∧ EntsOk dp F G w ents es ∧ EsOk dp F G w ents.toList es := by
  obtain ⟨ents, h1, h2, h3⟩ := hs.ent id _ g hsg hg
  exact ⟨ents, h1, ⟨h2, h3⟩, ⟨by simpa using h2, fun j e d he hd => (h3 j e d (by simpa using he) hd).2⟩⟩

theorem hit_at {ents : Array MapEntry} {p : Nat} {e : MapEntry} (h : ents[p]? = some e) : hit ents.toList 0 (some p) = some (p, e.val) := by
  simp [hit, h]

theorem run_update {kk : KK} {t kt et : TypeId} {vk vv : Value} {kd vd : D} {id : Nat} {g : Gh} {es es' : List (D × D)} (hs : Sim dp F G w S) (hu : P.underlying t = some (.map kt et)) (hkt : mKey P kt kk = true)
    (hk : isKey kk kd = true) (r2 : Rel dp F G w vk kd) (r3 : Rel dp F G w vv vd) (hg : sget G id = some g) (hsg : sget S id = some (.map es)) (he : muD kk kd vd es = some es') :
    ∃ w', (Instr.mapUpdate t (.map (some g.blk)) vk vv).run P w = .ok () w' ∧ (Sim dp F G w' (sset S id (.map es')) ∧ Ext F G w S F G w' (sset S id (.map es'))) := by
  obtain ⟨ents, h1, h2, h3⟩ := map_ok hs hsg hg
  obtain ⟨p, hp, hh⟩ := muD_pos 0 he
  have hfk := run_find (P := P) (t := kt) hkt r2 hk h3 hp
  have hck := fun b => run_checkKey (P := P) (w := w) b 9998 hkt hk r2
  rcases hh with ⟨rfl, rfl⟩ | ⟨q, rfl, hq, rfl⟩
  · obtain ⟨w', a1, a2, _⟩ := hs.writeMap (P := P) hsg hg (h2.push r2 r3).1 (h2.push r2 r3).2
    refine ⟨w', ?_, a2⟩
    simp only [List.length_append, List.length_singleton] at a1
    simp only [Instr.mapUpdate, Sem.run_bind, run_underlying hu, Result.andThen, run_getObj h1, hck, hfk, hit, a1]
  · obtain ⟨kx, vx, b1, _, b3⟩ := posD_spec hp
    simp only [Nat.zero_add, Nat.sub_zero] at b1 hp hfk
    obtain ⟨en, c1, c2, c3, c4⟩ := h2.get b1
    have hst := run_stays (P := P) b3 r2 c3
    have hmod : EntsOk dp F G w (ents.modify q fun e => { e with key := vk, val := vv }) (es.set q (kd, vd)) := h2.modify hq fun e _ => ⟨rfl, r2, r3⟩
    obtain ⟨w', a1, a2, _⟩ := hs.writeMap (P := P) hsg hg hmod.1 hmod.2
    refine ⟨w', ?_, a2⟩
    rw [List.length_set] at a1
    rw [hit_at c1] at hfk
    simp only [Instr.mapUpdate, Sem.run_bind, run_underlying hu, Result.andThen, run_getObj h1, hck, hfk, c1, Option.map_some, Option.getD_some, hst, a1]

theorem ok_mu {kk : KK} {m key v : A} {id : Nat} {es es' : List (D × D)} (hm : mR P dp o.op (.mu kk m key v) = true) (hs : Sim dp F G w S) (hf : Fr dp F G w a fr) (hk : isKey kk (av fr key) = true)
    (h1 : av fr m = .mp id) (h2 : sget S id = some (.map es)) (h3 : muD kk (av fr key) (av fr v) es = some es') : OpOk P dp F G w S a o (.tup []) (sset S id (.map es')) := by
  have fin : ∀ (t : TypeId) (x i u : Operand), (match P.underlying t with | some (.map kt _) => mKey P kt kk | _ => false) = true → mA dp x m = true → mA dp i key = true → mA dp u v = true →
      ∃ w', (Instr.mapUpdate t (a.eval x) (a.eval i) (a.eval u)).run P w = .ok () w' ∧ (Sim dp F G w' (sset S id (.map es')) ∧ Ext F G w S F G w' (sset S id (.map es'))) := by
    intro t x i u ht hx hi hu
    split at ht
    · rename_i kt et hut
      have r1 := hf.eval hx
      rw [h1] at r1
      generalize hv1 : a.eval x = v1 at r1
      cases r1 with
      | mp _ g hg => exact run_update hs hut ht hk (hf.eval hi) (hf.eval hu) hg h2 h3
    · cases ht
  simp only [mR] at hm
  split at hm
  · rename_i t x i u ho
    simp only [Bool.and_eq_true] at hm
    obtain ⟨w', a1, a2⟩ := fin t x i u hm.1.1.1 hm.1.1.2 hm.1.2 hm.2
    refine opOk_skip ?_ a2
    simp only [execOp, ho, Sem.run_bind, a1, Result.andThen, Sem.run_pure]
  · rename_i t x i u ho
    simp only [Bool.and_eq_true] at hm
    obtain ⟨w', a1, a2⟩ := fin t x i u hm.1.1.1 hm.1.1.2 hm.1.2 hm.2
    refine opOk_skip ?_ a2
    simp only [execOp, ho, Sem.run_bind, a1, Result.andThen, Sem.run_pure]
  · cases hm

/-- What asking a map for an entry to write into gives. -/
def mentRes (z key : D) (es : List (D × D)) (id : Nat) (S : Store) : Option Nat → Option (D × Store)
  | some j => match es[j]? with
    | some e => some (.tup [e.2, .i .i64 j], sset S id (.map (putD key j es)))
    | none => none
  | none => some (.tup [z, .i .i64 es.length], sset S id (.map (es ++ [(key, z)])))

theorem ok_ment {kk : KK} {z : D} {m key : A} {id : Nat} {es : List (D × D)} {p : Option Nat} {r : D × Store} (hm : mR P dp o.op (.ment kk z m key) = true) (hs : Sim dp F G w S) (hf : Fr dp F G w a fr) (hk : isKey kk (av fr key) = true)
    (h1 : av fr m = .mp id) (h2 : sget S id = some (.map es)) (h3 : posD kk (av fr key) es 0 = some p) (h4 : mentRes z (av fr key) es id S p = some r) : OpOk P dp F G w S a o r.1 r.2 := by
  simp only [mR] at hm
  split at hm
  · rename_i t x i ho
    simp only [Bool.and_eq_true] at hm
    obtain ⟨⟨ht, hx⟩, hi⟩ := hm
    split at ht
    · rename_i kt et hu
      simp only [Bool.and_eq_true] at ht
      obtain ⟨hkt, hz⟩ := ht
      have r1 := hf.eval hx
      have r2 := hf.eval hi
      rw [h1] at r1
      generalize hv1 : a.eval x = v1 at r1
      generalize hv2 : a.eval i = v2 at r2
      cases r1 with
      | mp _ g hg =>
        obtain ⟨zv, hzr, hzrel⟩ := run_zero1 (P := P) (dp := dp) (F := F) (G := G) (w := w) hz
        obtain ⟨ents, e1, e2, e3⟩ := map_ok hs h2 hg
        have hfk := run_find (P := P) (t := kt) hkt r2 hk e3 h3
        have hck := fun b => run_checkKey (P := P) (w := w) b 9998 hkt hk r2
        cases p with
        | none =>
          simp only [mentRes] at h4
          injection h4 with h4; subst h4
          obtain ⟨w', a1, a2, a3⟩ := hs.writeMap (P := P) h2 hg (e2.push r2 hzrel).1 (e2.push r2 hzrel).2
          simp only [List.length_append, List.length_singleton] at a1
          refine opOk_value (v := .tuple #[zv, goInt es.length]) (w' := w') ?_ a2 (a3 _ _ (rel_two hzrel (.i _ _)))
          simp only [execOp, ho, hv1, hv2, Instr.mapEntry, Sem.run_bind, run_underlying hu, Result.andThen, run_getObj e1, hck, hfk, hit, hzr, a1, Sem.run_pure]
        | some j =>
          simp only [mentRes] at h4
          split at h4
          · rename_i e hej
            injection h4 with h4; subst h4
            obtain ⟨kx, vx, b1, _, b3⟩ := posD_spec h3
            simp only [Nat.sub_zero] at b1
            rw [hej] at b1
            injection b1 with b1
            obtain ⟨en, c1, c2, c3, c4⟩ := e2.get hej
            rw [b1] at c3
            have hst := run_stays (P := P) b3 r2 c3
            have hlt := (List.getElem?_eq_some_iff.1 hej).1
            have hmod : EntsOk dp F G w (ents.modify j fun e => { e with key := v2 }) (putD (av fr key) j es) := by
              rw [putD_set hej]
              refine e2.modify hlt fun e' he' => ⟨rfl, r2, ?_⟩
              rw [c1] at he'; injection he' with he'; subst he'
              exact c4
            obtain ⟨w', a1, a2, a3⟩ := hs.writeMap (P := P) h2 hg hmod.1 hmod.2
            rw [putD_set hej, List.length_set] at a1
            rw [hit_at c1] at hfk
            refine opOk_value (v := .tuple #[en.val, goInt en.born]) (w' := w') ?_ a2 (a3 _ _ (rel_two c4 (by rw [c2]; exact .i _ _)))
            simp only [execOp, ho, hv1, hv2, Instr.mapEntry, Sem.run_bind, run_underlying hu, Result.andThen, run_getObj e1, hck, hfk, c1, Option.map_some, Option.getD_some, hst, a1, Sem.run_pure]
          · cases h4
    · cases ht
  · cases hm

theorem ok_est {m j v : A} {id : Nat} {kk : IntKind} {n : Int} {es : List (D × D)} (hm : mR P dp o.op (.est m j v) = true) (hs : Sim dp F G w S) (hf : Fr dp F G w a fr)
    (h1 : av fr m = .mp id) (h2 : av fr j = .i kk n) (h3 : sget S id = some (.map es)) (h4 : 0 ≤ n) (h5 : n < es.length) : OpOk P dp F G w S a o (.tup []) (sset S id (.map (valD (av fr v) n.toNat es))) := by
  simp only [mR] at hm
  split at hm
  · rename_i t x i u ho
    simp only [Bool.and_eq_true] at hm
    obtain ⟨⟨hx, hi⟩, hu⟩ := hm
    have r1 := hf.eval hx
    have r2 := hf.eval hi
    have r3 := hf.eval hu
    rw [h1] at r1
    rw [h2] at r2
    generalize hv1 : a.eval x = v1 at r1
    generalize hv2 : a.eval i = v2 at r2
    generalize hv3 : a.eval u = v3 at r3
    cases r1 with
    | mp _ g hg =>
      cases r2
      obtain ⟨ents, e1, e2, e3⟩ := map_ok hs h3 hg
      have hlt : n.toNat < es.length := by omega
      have hej := List.getElem?_eq_getElem hlt
      obtain ⟨en, c1, c2, c3, c4⟩ := e2.get hej
      have hmod : EntsOk dp F G w (ents.modify n.toNat fun e => { e with val := v3 }) (valD (av fr v) n.toNat es) := by
        rw [valD_set hej]
        refine e2.modify hlt fun e' he' => ⟨rfl, ?_, r3⟩
        rw [c1] at he'; injection he' with he'; subst he'
        exact c3
      obtain ⟨w', a1, a2, a3⟩ := hs.writeMap (P := P) h3 hg hmod.1 hmod.2
      rw [valD_set hej, List.length_set] at a1
      have hlt' : n.toNat < ents.size := by rw [e2.1]; exact hlt
      have hidx : ents.findIdx? (fun e => (e.born : Int) == n) = some n.toNat := by
        rw [Array.findIdx?_eq_some_iff_getElem]
        have hb : ∀ (q : Nat) (hq : q < ents.size), ents[q].born = q := fun q hq =>
          (e2.2 q ents[q] (es[q]'(by rw [← e2.1]; exact hq)) (Array.getElem?_eq_getElem hq) (List.getElem?_eq_getElem (by rw [← e2.1]; exact hq))).1
        refine ⟨hlt', ?_, fun q hq => ?_⟩
        · rw [hb]; simp; omega
        · rw [hb]; simp; omega
      refine opOk_skip (w' := w') ?_ a2
      simp only [execOp, ho, hv1, hv2, hv3, Instr.entryStore, Sem.run_bind, Result.andThen, run_getObj e1, asInt, asIntOf, Sem.run_pure, Sem.run_map, hidx, a1]
  · cases hm

/-! ## Freezing -/

theorem Fr.reput {a : Act} {fr : List D} (h : Fr dp F G w a fr) (t : Nat) {d : D} (hv : Rel dp F G w (a.tmps.getD t undef) d) : Fr dp F G w a (fset fr t d) := by
  refine ⟨by simp [fset_length, h.len], fun u => ?_⟩
  rw [fget_fset]
  split
  · rename_i hu
    rw [hu.1]; exact hv
  · exact h.rel u

theorem chunks_get {k : Nat} : ∀ {n : Nat} {cs : List D}, n * k ≤ cs.length → (chunks k n cs).length = n ∧ (∀ x ∈ chunks k n cs, x.length = k) ∧
    ∀ (j : Nat) (x : List D) (m : Nat) (d : D), (chunks k n cs)[j]? = some x → x[m]? = some d → j < n ∧ m < k ∧ cs[j * k + m]? = some d
  | 0, cs, _ => ⟨rfl, by simp [chunks], fun j x m d h => by simp [chunks] at h⟩
  | n + 1, cs, h => by
    rw [Nat.add_mul, Nat.one_mul] at h
    obtain ⟨h1, h2, h3⟩ := chunks_get (k := k) (n := n) (cs := cs.drop k) (by simp; omega)
    have hl : (cs.take k).length = k := by simp; omega
    refine ⟨by simp [chunks, h1], fun x hx => ?_, fun j x m d hx hd => ?_⟩
    · simp only [chunks, List.mem_cons] at hx
      rcases hx with rfl | hx
      · exact hl
      · exact h2 x hx
    · simp only [chunks] at hx
      cases j with
      | zero =>
        simp at hx; subst hx
        have hm := (List.getElem?_eq_some_iff.1 hd).1
        rw [hl] at hm
        rw [List.getElem?_take_of_lt hm] at hd
        exact ⟨by omega, hm, by simpa using hd⟩
      | succ j =>
        obtain ⟨a1, a2, a3⟩ := h3 j x m d (by simpa using hx) hd
        refine ⟨by omega, a2, ?_⟩
        rw [List.getElem?_drop] at a3
        rw [Nat.add_mul, Nat.one_mul, show j * k + k + m = k + (j * k + m) by omega]
        exact a3

theorem ok_fz {t : Nat} {r : D × Store} (hs : Sim dp F G w S) (hf : Fr dp F G w a fr) (h : fzD (fget fr t) S = some r) :
    ∃ F', Sim dp F' G w r.2 ∧ Ext F G w S F' G w r.2 ∧ Fr dp F' G w a (fset fr t r.1) := by
  have r1 := hf.rel t
  unfold fzD at h
  split at h
  · rename_i k id o n heq
    rw [heq] at r1
    split at h
    · rename_i cs hsg
      split at h
      · rename_i hle
        injection h with h; subst h
        generalize hv : a.tmps.getD t undef = v at r1
        cases r1 with
        | ar _ _ _ _ cap g hg hn =>
          obtain ⟨vs, T, e1, e2, e3, e4, e5⟩ := hs.ent id _ g hsg hg
          obtain ⟨c1, c2, c3⟩ := chunks_get (k := k) (n := n) (cs := cs.drop o) (by simp; omega)
          have hsim := hs.write (F' := fun b p => F b p ∨ (b = g.blk ∧ o ≤ p ∧ p < o + n * k)) (e' := .gone) hsg hg trivial (x := .cells vs T (0, 0)) ⟨e1, fun _ _ => rfl, rfl, rfl, rfl, rfl⟩ (fun _ _ => rfl) (fun _ _ h => .inl h) (fun b p h => by
            rcases h with h | ⟨rfl, h1, h2⟩
            · exact .inl h
            · have : p < vs.size := by omega
              exact .inr ⟨rfl, vs[p], by rw [cell_box e1]; exact Array.getElem?_eq_getElem this⟩) trivial
          refine ⟨_, hsim.1, hsim.2, (hf.ext hsim.2).reput t ?_⟩
          rw [hv]
          have := Rel.sl (dp := dp) (F := fun b p => F b p ∨ (b = g.blk ∧ o ≤ p ∧ p < o + n * k)) (G := G) (w := w) k (chunks k n (cs.drop o)) .ro g.blk o cap (fun j m => vs.getD (o + j * k + m) undef) c2 (by omega) (fun j x m d hx hd => by
              obtain ⟨b1, b2, b3⟩ := c3 j x m d hx hd
              have hlt := lt_mul b1 b2
              have hvs : o + j * k + m < vs.size := by omega
              have hg' : vs.getD (o + j * k + m) undef = vs[o + j * k + m] := by simp [Array.getD, hvs]
              rw [hg']
              exact ⟨.inr ⟨rfl, by omega, by omega⟩, by rw [cell_box e1]; exact Array.getElem?_eq_getElem hvs, e4 _ (by simp)⟩) (fun j x m d hx hd => by
              obtain ⟨b1, b2, b3⟩ := c3 j x m d hx hd
              have hlt := lt_mul b1 b2
              have hvs : o + j * k + m < vs.size := by omega
              have hg' : vs.getD (o + j * k + m) undef = vs[o + j * k + m] := by simp [Array.getD, hvs]
              rw [hg']
              rw [List.getElem?_drop, ← Nat.add_assoc] at b3
              exact (e5 _ _ d (Array.getElem?_eq_getElem hvs) b3).ext hsim.2) trivial
          rw [c1] at this
          exact this
      · cases h
    · cases h
  · rename_i k nl xs ow heq
    injection h with h; subst h
    exact ⟨F, hs, Ext.refl _ _ _ _, hf.reput t (by rw [← heq]; exact r1)⟩
  · cases h

end

end Go.Proofs.YtjlmeikcfdanmaaGreatDoor.DE
