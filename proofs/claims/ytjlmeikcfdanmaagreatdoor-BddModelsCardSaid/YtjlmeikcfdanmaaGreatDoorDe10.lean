/-
  MAPS: the search for a key; look-ups.
-/
import Derived.Test.YtjlmeikcfdanmaaGreatDoorDe9
namespace Go.Proofs.YtjlmeikcfdanmaaGreatDoor.DE
open Go

section
variable {P : Program} {dp : Nat → Option Fn} {F F' : Fix} {G G' : List Gh} {w w' : World} {S S' : Store} {a : Act} {fr : List D} {o : Oper} {d : D}

theorem agg_get {vs : Array Value} {xs : List D} (h : Rel dp F G w (.agg vs) (.agg xs)) : vs.size = xs.length ∧ ∀ (j : Nat) (x : D), xs[j]? = some x → ∃ v, vs[j]? = some v ∧ Rel dp F G w v x := by
  cases h with
  | agg _ _ hl h =>
    refine ⟨hl, fun j x hx => ?_⟩
    have hlt : j < vs.size := by rw [hl]; exact (List.getElem?_eq_some_iff.1 hx).1
    exact ⟨vs[j], Array.getElem?_eq_getElem hlt, h j _ x (Array.getElem?_eq_getElem hlt) hx⟩

theorem rel_agg {v : Value} {xs : List D} (h : Rel dp F G w v (.agg xs)) : ∃ vs, v = .agg vs := by
  cases h; exact ⟨_, rfl⟩

theorem run_checkKey1 {t : TypeId} {k : SK} {v : Value} (e : Bool) (n : Nat) (ht : mSK P t k = true) : (Instr.checkKey e (n + 1) t v).run P w = .ok () w := by
  cases k with
  | i =>
    obtain ⟨k, htd⟩ := mSK_i ht
    simp only [Instr.checkKey, Sem.run_bind, run_underlying htd, Result.andThen]
    rfl
  | b =>
    simp only [Instr.checkKey, Sem.run_bind, run_underlying (mSK_b ht), Result.andThen]
    rfl
  | s =>
    simp only [Instr.checkKey, Sem.run_bind, run_underlying (mSK_s ht), Result.andThen]
    rfl

theorem isSKL_length : ∀ {ks : List SK} {xs : List D}, isSKL ks xs = true → xs.length = ks.length
  | [], [], _ => rfl
  | [], _ :: _, h => by simp [isSKL] at h
  | _ :: _, [], h => by simp [isSKL] at h
  | _ :: ks, _ :: xs, h => by
    simp only [isSKL, Bool.and_eq_true] at h
    simp [isSKL_length h.2]

theorem run_checkFields {vs : Array Value} {e : Bool} {n : Nat} : ∀ {fs : List Field} {off : Nat} {ks : List SK} {xs : List D}, flatFields P fs off ks = true → xs.length = ks.length →
    (∀ (j : Nat) (x : D), xs[j]? = some x → ∃ v, vs[off + j]? = some v ∧ Rel dp F G w v x) →
    (forIn fs PUnit.unit fun f _ => (do
      if f.name ≠ "_" then
        let x ← part f.type vs f.offset
        Instr.checkKey e (n + 1) f.type x
        pure (ForInStep.yield PUnit.unit)
      else pure (ForInStep.yield PUnit.unit) : Sem (ForInStep PUnit))).run P w = .ok PUnit.unit w
  | [], _, _, _, _, _, _ => rfl
  | _ :: _, _, [], _, hf, _, _ => by simp [flatFields] at hf
  | f :: fs, off, k :: ks, xs, hf, hl, hx => by
    simp only [flatFields, Bool.and_eq_true, bne_iff_ne, ne_eq, beq_iff_eq] at hf
    obtain ⟨⟨⟨⟨hn, hk⟩, hsz⟩, hoff⟩, hrest⟩ := hf
    match xs with
    | [] => simp at hl
    | x :: xs =>
      obtain ⟨v, hv, hrv⟩ := hx 0 x rfl
      have ih := run_checkFields (e := e) (n := n) (vs := vs) (xs := xs) hrest (by simpa using hl) (fun j z hz => by
            obtain ⟨v, a, b⟩ := hx (j + 1) z (by simpa using hz)
            exact ⟨v, by rwa [show off + 1 + j = off + (j + 1) by omega], b⟩)
      simp only [Nat.add_zero] at hv
      subst hoff
      simp only [List.forIn_cons, ne_eq, hn, not_false_eq_true, if_true, Sem.run_bind, mSK_part hk hv, Result.andThen, run_checkKey1 e n hk, Sem.run_pure]
      simpa only [ne_eq] using ih

theorem run_checkKey {t : TypeId} {kk : KK} {x : D} {v : Value} (e : Bool) (n : Nat) (ht : mKey P t kk = true) (hx : isKey kk x = true) (hr : Rel dp F G w v x) :
    (Instr.checkKey e (n + 2) t v).run P w = .ok () w := by
  cases kk with
  | one k => exact run_checkKey1 e (n + 1) ht
  | agg ks =>
    cases x <;> simp [isKey] at hx
    rename_i xs
    obtain ⟨vs, rfl⟩ := rel_agg hr
    obtain ⟨hsz, hg⟩ := agg_get hr
    have hl := isSKL_length hx
    simp only [mKey] at ht
    unfold mFlat at ht
    split at ht
    · rename_i fs hfs
      simp only [Bool.and_eq_true, Bool.not_eq_true'] at ht
      rw [Instr.checkKey]
      simp only [Sem.run_bind, run_underlying hfs, Result.andThen]
      rw [← Array.forIn_toList]
      have := run_checkFields (P := P) (e := e) (n := n) (vs := vs) (off := 0) ht.2 hl (fun j x hx => by rw [Nat.zero_add]; exact hg j x hx)
      simp only [Sem.run_bind, this, Result.andThen, Sem.run_pure]
    · rename_i m el he
      simp only [Bool.and_eq_true, Bool.not_eq_true', beq_iff_eq] at ht
      obtain ⟨⟨⟨⟨rfl, h2⟩, h3⟩, h4⟩, h5⟩ := ht
      match ks, h3 with
      | [k1, k2], _ =>
        match xs, hl with
        | [x1, x2], _ =>
          simp only [List.all_cons, List.all_nil, Bool.and_true, Bool.and_eq_true] at h4
          obtain ⟨v1, a1, b1⟩ := hg 0 x1 rfl
          obtain ⟨v2, a2, b2⟩ := hg 1 x2 rfl
          have w1 := mSK_part (P := P) (w := w) h4.1 a1
          have w2 := mSK_part (P := P) (w := w) h4.2 a2
          obtain ⟨m, hm⟩ : ∃ m, m = n + 1 := ⟨_, rfl⟩
          have q1 := run_checkKey1 (P := P) (w := w) (v := v1) e n h4.1
          have q2 := run_checkKey1 (P := P) (w := w) (v := v2) e n h4.2
          rw [← hm] at q1 q2
          rw [show n + 2 = m + 1 by omega, Instr.checkKey]
          simp only [Sem.run_bind, run_underlying he, Result.andThen, run_sizeOf_of h5 w, Nat.mul_one]
          simp only [Std.Legacy.Range.forIn_eq_forIn_range', Std.Legacy.Range.size, List.range']
          simp only [List.forIn_cons, List.forIn_nil, Sem.run_bind, Result.andThen, run_sizeOf_of h5 w, Nat.mul_one, w1, q1, Sem.run_pure, Nat.zero_add, w2, q2]
    · cases ht

/-- The entries of a map in memory and those of the evaluator. -/
def EsOk (dp : Nat → Option Fn) (F : Fix) (G : List Gh) (w : World) (l : List MapEntry) (es : List (D × D)) : Prop :=
  l.length = es.length ∧ ∀ (j : Nat) (e : MapEntry) (d : D × D), l[j]? = some e → es[j]? = some d → Rel dp F G w e.key d.1 ∧ Rel dp F G w e.val d.2

theorem EsOk.tail {e : MapEntry} {l : List MapEntry} {x : D × D} {es : List (D × D)} (h : EsOk dp F G w (e :: l) (x :: es)) : EsOk dp F G w l es :=
  ⟨by simpa using h.1, fun j e d he hd => h.2 (j + 1) e d (by simpa using he) (by simpa using hd)⟩

theorem EsOk.head {e : MapEntry} {l : List MapEntry} {x : D × D} {es : List (D × D)} (h : EsOk dp F G w (e :: l) (x :: es)) : Rel dp F G w e.key x.1 ∧ Rel dp F G w e.val x.2 := h.2 0 e x rfl rfl

/-- Where the key stands, with the value there. -/
def hit (l : List MapEntry) (j : Nat) : Option Nat → Option (Nat × Value)
  | none => none
  | some p => some (p, ((l[p - j]?).map (·.val)).getD undef)

theorem hit_cons (e : MapEntry) (l : List MapEntry) (j : Nat) (r : Option Nat) (h : ∀ p, r = some p → j + 1 ≤ p) : hit (e :: l) j r = hit l (j + 1) r := by
  cases r with
  | none => rfl
  | some p =>
    have := h p rfl
    simp only [hit]
    rw [show p - j = (p - (j + 1)) + 1 by omega]
    simp

theorem posD_ge {kk : KK} {key : D} : ∀ {es : List (D × D)} {j : Nat} {p : Nat}, posD kk key es j = some (some p) → j ≤ p
  | [], _, _, h => by simp [posD] at h
  | (k, _) :: es, j, p, h => by
    simp only [posD] at h
    split at h
    · injection h with h; injection h with h; omega
    · have := posD_ge h; omega
    · cases h

theorem findNow_pos {k : SK} {t : TypeId} {td : TypeDesc} {key : D} {u : Value} (ht : mSK P t k = true) (htd : P.underlying t = some td) (hr : Rel dp F G w u key) :
    ∀ {l : List MapEntry} {es : List (D × D)} {j : Nat} {r : Option Nat}, EsOk dp F G w l es → posD (.one k) key es j = some r → Instr.findNow td u l j = some (hit l j r)
  | [], [], j, r, _, h => by
    simp only [posD] at h
    injection h with h; subst h; rfl
  | [], _ :: _, _, _, he, _ => by simp [EsOk] at he
  | _ :: _, [], _, _, he, _ => by simp [EsOk] at he
  | e :: l, (x, v) :: es, j, r, he, h => by
    obtain ⟨hk, hv⟩ := he.head
    have same : ∀ b, keq (.one k) key x = some b → Instr.sameNow td u e.key = some b := by
      intro b hb
      simp only [keq] at hb
      split at hb
      · rename_i hc
        simp only [Bool.and_eq_true] at hc
        cases k with
        | i =>
          obtain ⟨q, hq⟩ := mSK_i ht
          rw [htd] at hq; injection hq with hq; subst hq
          cases hr <;> simp [isSK] at hc
          generalize e.key = ek at hk
          cases hk <;> simp [isSK] at hc
          simpa [Instr.sameNow, seq1] using hb
        | b =>
          have hq := mSK_b ht
          rw [htd] at hq; injection hq with hq; subst hq
          cases hr <;> simp [isSK] at hc
          generalize e.key = ek at hk
          cases hk <;> simp [isSK] at hc
          simpa [Instr.sameNow, seq1] using hb
        | s =>
          have hq := mSK_s ht
          rw [htd] at hq; injection hq with hq; subst hq
          cases hr <;> simp [isSK] at hc
          generalize e.key = ek at hk
          cases hk <;> simp [isSK] at hc
          rename_i p q
          simp only [seq1] at hb
          injection hb with hb
          subst hb
          simp only [Instr.sameNow]
          rw [beq_toListBytes]
          simp [ByteArray.toList_eq]
      · cases hb
    simp only [posD] at h
    split at h
    · rename_i hb
      injection h with h; subst h
      simp only [Instr.findNow, same _ hb, hit, Nat.sub_self]
      rfl
    · rename_i hb
      simp only [Instr.findNow, same _ hb]
      rw [findNow_pos ht htd hr he.tail h, hit_cons]
      rintro p rfl
      exact posD_ge h
    · cases h

theorem findAsking_pos {ks : List SK} {t : TypeId} {key : D} {u : Value} (ht : mFlat P t ks = true) (hr : Rel dp F G w u key) :
    ∀ {l : List MapEntry} {es : List (D × D)} {j : Nat} {r : Option Nat}, EsOk dp F G w l es → posD (.agg ks) key es j = some r → (Instr.findAsking t u l j).run P w = .ok (hit l j r) w
  | [], [], j, r, _, h => by
    simp only [posD] at h
    injection h with h; subst h; rfl
  | [], _ :: _, _, _, he, _ => by simp [EsOk] at he
  | _ :: _, [], _, _, he, _ => by simp [EsOk] at he
  | e :: l, (x, v) :: es, j, r, he, h => by
    obtain ⟨hk, hv⟩ := he.head
    have same : ∀ b, keq (.agg ks) key x = some b → (Op.equal t u e.key).run P w = .ok b w := by
      intro b hb
      cases key <;> simp only [keq] at hb <;> try (cases hb; done)
      cases x <;> simp only at hb <;> try (cases hb; done)
      obtain ⟨vs, rfl⟩ := rel_agg hr
      obtain ⟨us, hus⟩ := rel_agg hk
      simp only at hk hus
      rw [hus] at hk ⊢
      exact (run_flat (P := P) (n := 9998) ht hb hr hk).1
    simp only [posD] at h
    split at h
    · rename_i hb
      injection h with h; subst h
      simp only [Instr.findAsking, Sem.run_bind, same _ hb, Result.andThen, if_true, Sem.run_pure, hit, Nat.sub_self]
      rfl
    · rename_i hb
      simp only [Instr.findAsking, Sem.run_bind, same _ hb, Result.andThen, Bool.false_eq_true, if_false]
      rw [findAsking_pos ht hr he.tail h, hit_cons]
      rintro p rfl
      exact posD_ge h
    · cases h

theorem run_find {kk : KK} {t : TypeId} {key : D} {u : Value} {l : List MapEntry} {es : List (D × D)} {r : Option Nat} (ht : mKey P t kk = true) (hr : Rel dp F G w u key) (hkey : isKey kk key = true)
    (he : EsOk dp F G w l es) (h : posD kk key es 0 = some r) : (Instr.findKey t u l).run P w = .ok (hit l 0 r) w := by
  cases kk with
  | one k =>
    have hT : ∃ td, P.underlying t = some td := by
      cases k with
      | i => obtain ⟨q, hq⟩ := mSK_i ht; exact ⟨_, hq⟩
      | b => exact ⟨_, mSK_b ht⟩
      | s => exact ⟨_, mSK_s ht⟩
    obtain ⟨td, htd⟩ := hT
    simp only [Instr.findKey, Sem.run_bind, run_underlying htd, Result.andThen, findNow_pos ht htd hr he h, Sem.run_pure]
  | agg ks =>
    simp only [mKey] at ht
    have hT : ∃ td, P.underlying t = some td ∧ ∀ v u, (∃ vs, v = Value.agg vs) → Instr.sameNow td v u = none := by
      unfold mFlat at ht
      split at ht
      · rename_i fs hfs
        refine ⟨_, hfs, ?_⟩
        rintro _ u ⟨vs, rfl⟩
        simp [Instr.sameNow]
      · rename_i n e hfs
        refine ⟨_, hfs, ?_⟩
        rintro _ u ⟨vs, rfl⟩
        simp [Instr.sameNow]
      · cases ht
    obtain ⟨td, htd, hsame⟩ := hT
    cases key <;> simp [isKey] at hkey
    have hag := rel_agg hr
    cases l with
    | nil =>
      cases es with
      | nil =>
        simp only [posD] at h
        injection h with h; subst h
        simp only [Instr.findKey, Sem.run_bind, run_underlying htd, Result.andThen, Instr.findNow, Sem.run_pure, hit]
      | cons _ _ => simp [EsOk] at he
    | cons e l =>
      simp only [Instr.findKey, Sem.run_bind, run_underlying htd, Result.andThen, Instr.findNow, hsame u e.key hag]
      exact findAsking_pos ht hr he h

theorem lkD_pos {kk : KK} {key : D} : ∀ {es : List (D × D)} {r : Option D} (j : Nat), lkD kk key es = some r → ∃ p, posD kk key es j = some p ∧
    ((r = none ∧ p = none) ∨ ∃ q k v, r = some v ∧ p = some (j + q) ∧ es[q]? = some (k, v))
  | [], r, j, h => by
    simp only [lkD] at h
    injection h with h
    exact ⟨none, rfl, .inl ⟨h.symm, rfl⟩⟩
  | (k, v) :: es, r, j, h => by
    simp only [lkD] at h
    split at h
    · rename_i hk
      injection h with h
      exact ⟨some j, by simp [posD, hk], .inr ⟨0, k, v, h.symm, rfl, rfl⟩⟩
    · rename_i hk
      obtain ⟨p, hp, hh⟩ := lkD_pos (j + 1) h
      refine ⟨p, by simp [posD, hk, hp], ?_⟩
      rcases hh with hh | ⟨q, k', v', h1, h2, h3⟩
      · exact .inl hh
      · exact .inr ⟨q + 1, k', v', h1, by rw [h2]; congr 1; omega, by simpa using h3⟩
    · cases h

theorem run_zero1 {t : TypeId} {z : D} (h : mZ1 P t z = true) : ∃ v, (zeroValue t).run P w = .ok v w ∧ Rel dp F G w v z := by
  unfold mZ1 at h
  split at h
  · rename_i i hi
    split at h
    · rename_i v hv
      exact ⟨v, by simp only [zeroValue, typeInfo, Sem.run_bind, run_program, Result.andThen, hi, hv, Sem.run_pure], mV_rel h⟩
    · cases h
  · cases h

theorem map_ents {id : Nat} {g : Gh} {es : List (D × D)} (hs : Sim dp F G w S) (hsg : sget S id = some (.map es)) (hg : sget G id = some g) :
    ∃ ents : Array MapEntry, w.heap[g.blk]? = some (.map ents es.length) ∧ ents.size = es.length ∧ EsOk dp F G w ents.toList es ∧ ∀ (j : Nat) (e : MapEntry), ents[j]? = some e → e.born = j := by
  obtain ⟨ents, h1, h2, h3⟩ := hs.ent id _ g hsg hg
  refine ⟨ents, h1, h2, ⟨by simpa using h2, fun j e d he hd => (h3 j e d (by simpa using he) hd).2⟩, fun j e he => ?_⟩
  have hlt : j < es.length := by rw [← h2]; exact (Array.getElem?_eq_some_iff.1 he).1
  exact (h3 j e es[j] he (List.getElem?_eq_getElem hlt)).1

theorem run_getObj {r : Nat} {es : Array MapEntry} {c : Nat} (h : w.heap[r]? = some (.map es c)) : (getObj r).run P w = .ok (.map es c) w := by
  simp only [getObj, Sem.run, h]

/-- The answer of a look-up. -/
def lkRes (ok : Bool) (z : D) : Option D → D
  | some v => if ok then .tup [v, .b true] else v
  | none => if ok then .tup [z, .b false] else z

def lkIn (kk : KK) (S : Store) (key m : D) : Option (Option D) :=
  match m with
  | .nilm => some none
  | .mp id => match sget S id with
    | some (.map es) => lkD kk key es
    | _ => none
  | _ => none

theorem rel_two {u v : Value} {x y : D} (h1 : Rel dp F G w u x) (h2 : Rel dp F G w v y) : Rel dp F G w (.tuple #[u, v]) (.tup [x, y]) := by
  refine .tup _ _ rfl fun j v d hv hd => ?_
  match j with
  | 0 => simp at hv hd; subst hv hd; exact h1
  | 1 => simp at hv hd; subst hv hd; exact h2
  | j + 2 => simp at hd

theorem pur_lk {kk : KK} {ok : Bool} {z : D} {m key : A} {r : Option D} (hm : mR P dp o.op (.lk kk ok z m key) = true) (hs : Sim dp F G w S) (hf : Fr dp F G w a fr) (hk : isKey kk (av fr key) = true)
    (he : lkIn kk S (av fr key) (av fr m) = some r) : Pur P dp F G w a o (lkRes ok z r) := by
  simp only [mR] at hm
  split at hm
  · rename_i t x i ok' ho
    simp only [Bool.and_eq_true, beq_iff_eq] at hm
    obtain ⟨⟨⟨rfl, ht⟩, hx⟩, hi⟩ := hm
    split at ht
    · rename_i kt et hu
      simp only [Bool.and_eq_true] at ht
      obtain ⟨hkt, hz⟩ := ht
      have r1 := hf.eval hx
      have r2 := hf.eval hi
      generalize hv1 : a.eval x = v1 at r1
      generalize hv2 : a.eval i = v2 at r2
      generalize av fr key = kd at r2 hk he
      generalize av fr m = md at r1 he
      obtain ⟨zv, hzr, hzrel⟩ := run_zero1 (P := P) (dp := dp) (F := F) (G := G) (w := w) hz
      have rel_none : Rel dp F G w (if ok then .tuple #[zv, .bool false] else zv) (lkRes ok z none) := by
        cases ok
        · exact hzrel
        · exact rel_two hzrel (.b _)
      unfold lkIn at he
      cases r1 <;> simp only at he <;> try (cases he; done)
      · injection he with he; subst he
        refine ⟨_, ?_, rel_none⟩
        have hfk := run_find (P := P) (t := kt) (es := []) (l := []) hkt r2 hk ⟨rfl, fun j e d h => by simp at h⟩ (r := none) rfl
        have hck := fun b => run_checkKey (P := P) (w := w) b 9998 hkt hk r2
        simp only [execOp, ho, hv1, hv2, Instr.lookup, Sem.run_bind, run_underlying hu, Result.andThen, Sem.run_pure, hck, hfk, hit, hzr]
      · rename_i id g hg
        split at he
        · rename_i es hsg
          obtain ⟨ents, h1, h2, h3, h4⟩ := map_ents hs hsg hg
          obtain ⟨p, hp, hh⟩ := lkD_pos 0 he
          have hfk := run_find (P := P) (t := kt) hkt r2 hk h3 hp
          have hck := fun b => run_checkKey (P := P) (w := w) b 9998 hkt hk r2
          rcases hh with ⟨rfl, rfl⟩ | ⟨q, k, v, rfl, rfl, hq⟩
          · refine ⟨_, ?_, rel_none⟩
            simp only [execOp, ho, hv1, hv2, Instr.lookup, Sem.run_bind, run_underlying hu, Result.andThen, Sem.run_pure, run_getObj h1, hck, hfk, hit, hzr]
          · have hlt : q < ents.size := by rw [h2]; exact (List.getElem?_eq_some_iff.1 hq).1
            obtain ⟨hkr, hvr⟩ := h3.2 q ents[q] (k, v) (by simp [hlt]) hq
            refine ⟨if ok then .tuple #[ents[q].val, .bool true] else ents[q].val, ?_, ?_⟩
            · simp only [execOp, ho, hv1, hv2, Instr.lookup, Sem.run_bind, run_underlying hu, Result.andThen, Sem.run_pure, run_getObj h1, hck, hfk, hit]
              simp [hlt]
            · cases ok
              · exact hvr
              · exact rel_two hvr (.b _)
        · cases he
    · cases ht
  · cases hm

end

end Go.Proofs.YtjlmeikcfdanmaaGreatDoor.DE
