/-
  ADDRESSES, READINGS, SLICE EXPRESSIONS: operations that leave the world alone, continued.
-/
import Derived.Test.YtjlmeikcfdanmaaGreatDoorDe5
namespace Go.Proofs.YtjlmeikcfdanmaaGreatDoor.DE
open Go

theorem addr_add (b o n : Nat) : (⟨b, o, none⟩ : Addr).add n = ⟨b, o + n, none⟩ := by
  unfold Addr.add
  split
  · rename_i h; subst h; rfl
  · rfl

theorem run_sizeOf_of {P : Program} {t : TypeId} {k : Nat} (h : mSz P t k = true) (w : World) : (sizeOf t).run P w = .ok k w := by
  unfold mSz at h
  split at h
  · rename_i i hi
    simp only [beq_iff_eq] at h
    subst h
    simp only [sizeOf, typeInfo, Sem.run_bind, run_program, Result.andThen, hi, Sem.run_pure]
  · cases h

theorem mT_sz {P : Program} {t : TypeId} {k : Nat} {g : Bool} (h : mT P t k g = true) : mSz P t k = true := by
  unfold mT at h
  simp only [Bool.and_eq_true] at h
  exact h.1

theorem run_isAgg_of {P : Program} {t : TypeId} {k : Nat} {g : Bool} (h : mT P t k g = true) (w : World) : (isAgg t).run P w = .ok g w ∧ (g = false → k = 1) := by
  unfold mT at h
  simp only [Bool.and_eq_true] at h
  obtain ⟨_, h⟩ := h
  split at h
  · rename_i fs hd
    subst h
    exact ⟨by simp only [isAgg, Sem.run_bind, run_underlying hd, Result.andThen, Sem.run_pure], by simp⟩
  · rename_i fs n hd
    subst h
    exact ⟨by simp only [isAgg, Sem.run_bind, run_underlying hd, Result.andThen, Sem.run_pure], by simp⟩
  · rename_i d h1 h2 hd
    simp only [Bool.and_eq_true, Bool.not_eq_true', beq_iff_eq] at h
    obtain ⟨rfl, rfl⟩ := h
    refine ⟨?_, fun _ => rfl⟩
    simp only [isAgg, Sem.run_bind, run_underlying hd, Result.andThen]
    cases d <;> first | rfl | (exfalso; first | exact h1 _ rfl | exact h2 _ _ rfl)
  · cases h

section
variable {P : Program} {dp : Nat → Option Fn} {F F' : Fix} {G G' : List Gh} {w w' : World} {S S' : Store} {a : Act} {fr : List D} {o : Oper} {d : D}

theorem pur_fa {y : A} {off : Nat} (hm : mR P dp o.op (.fa off y) = true) (hf : Fr dp F G w a fr)
    (he : (match av fr y with | .bx id p => some (D.bx id (p + off)) | .el cs p => some (.el cs (p + off)) | _ => none) = some d) : Pur P dp F G w a o d := by
  simp only [mR] at hm
  split at hm
  · rename_i t x j ho
    simp only [Bool.and_eq_true] at hm
    obtain ⟨h1, h2⟩ := hm
    have hr := hf.eval h2
    split at h1
    · rename_i fs hu
      split at h1
      · rename_i f hfj
        simp only [Bool.and_eq_true, beq_iff_eq] at h1
        obtain ⟨rfl, h3⟩ := h1
        split at h3
        · rename_i i hi
          have hne : i.size ≠ 0 := by simpa using h3
          have hsz : (sizeOf f.type).run P w = .ok i.size w := run_sizeOf_of (by simp [mSz, hi]) w
          have run : ∀ b p, a.eval x = .pointer (some ⟨b, p, none⟩) → (execOp a.eval o).run P w = .ok (.value (.pointer (some ⟨b, p + f.offset, none⟩))) w := by
            intro b p hv
            simp only [execOp, ho, hv, Instr.fieldAt, Instr.sureAddr, fieldPlace, Sem.run_bind, run_underlying hu, hfj, Sem.run_pure, Result.andThen, hsz, if_neg hne, addr_add]
          generalize hv : a.eval x = v at hr run
          generalize av fr y = e at hr he
          cases hr <;> simp at he
          · rename_i id p g hg
            subst he
            exact ⟨_, run _ _ rfl, .bx _ _ _ hg⟩
          · rename_i cs blk base p c h1 h2
            subst he
            exact ⟨_, run _ _ rfl, by rw [Nat.add_assoc]; exact .el cs blk base _ c h1 h2⟩
        · cases h3
      · cases h1
    · cases h1
  · cases hm

theorem rd_rel {cs : List D} {k off : Nat} {g : Bool} {t : TypeId} {blk base : Nat} {c : Nat → Value} (hT : mT P t k g = true)
    (hc : ∀ (m : Nat) (e : D), cs[m]? = some e → w.cell? ⟨blk, base + m, none⟩ = some (c m) ∧ Rel dp F G w (c m) e) (hd : rdK cs off k g = some d) :
    ∃ v, (loadVar t ⟨blk, base + off, none⟩).run P w = .ok v w ∧ Rel dp F G w v d := by
  obtain ⟨ha, hk⟩ := run_isAgg_of hT w
  unfold rdK at hd
  cases g with
  | true =>
    simp only [if_true] at hd
    split at hd
    · rename_i hle
      injection hd with hd
      subst hd
      have hl : ∀ j, j < k → w.cell? ((⟨blk, base + off, none⟩ : Addr).add j) = some (c (off + j)) := by
        intro j hj
        have hlt : off + j < cs.length := by omega
        rw [addr_add, Nat.add_assoc]
        exact (hc (off + j) cs[off + j] (List.getElem?_eq_getElem hlt)).1
      refine ⟨_, by simp only [loadVar, Sem.run_bind, ha, Result.andThen, if_true, run_sizeOf_of (mT_sz hT) w, run_loadCells w _ k (fun j => c (off + j)) hl, Sem.run_pure]; rfl, .agg _ _ (by simp; omega) fun j v e hv he => ?_⟩
      have hj : j < k := by
        have := (Array.getElem?_eq_some_iff.1 hv).1
        simpa using this
      simp [hj] at hv
      subst hv
      rw [List.getElem?_take_of_lt hj, List.getElem?_drop] at he
      exact (hc (off + j) e he).2
    · cases hd
  | false =>
    simp at hd
    obtain ⟨h1, h2⟩ := hc off d hd
    exact ⟨c off, by simp only [loadVar, Sem.run_bind, ha, Result.andThen, Bool.false_eq_true, if_false, run_load, h1], h2⟩

theorem cell_box {b m : Nat} {vs : Array Value} {T : TypeId} {z : Nat × Nat} (h : w.heap[b]? = some (.cells vs T z)) : w.cell? ⟨b, m, none⟩ = vs[m]? := by
  simp [World.cell?, h]

theorem pur_ld {y : A} {k : Nat} {g : Bool} (hm : mR P dp o.op (.ld k g y) = true) (hs : Sim dp F G w S) (hf : Fr dp F G w a fr) (he : ldD S k g (av fr y) = some d) : Pur P dp F G w a o d := by
  simp only [mR] at hm
  split at hm
  · rename_i t x ho
    simp only [Bool.and_eq_true] at hm
    obtain ⟨hT, h2⟩ := hm
    have hr := hf.eval h2
    have run : ∀ ad v, a.eval x = .pointer (some ad) → (loadVar t ad).run P w = .ok v w → (execOp a.eval o).run P w = .ok (.value v) w := by
      intro ad v hv hl
      simp only [execOp, ho, hv, Instr.loadAt, Instr.sureAddr, Sem.run_bind, Sem.run_pure, Result.andThen, hl]
    generalize hv : a.eval x = v at hr run
    generalize av fr y = e at hr he
    cases hr <;> simp only [ldD] at he <;> try (cases he; done)
    · rename_i id p gh hg
      split at he
      · rename_i cs hsg
        obtain ⟨vs, T, hh, hl, _, _, hc⟩ := hs.ent id _ gh hsg hg
        have := rd_rel (P := P) (dp := dp) (F := F) (G := G) (w := w) (cs := cs) (k := k) (off := p) (g := g) (t := t) (blk := gh.blk) (base := 0) (c := fun m => vs.getD m undef) hT (fun m e hme => by
          have hlt : m < vs.size := Nat.lt_of_lt_of_le (List.getElem?_eq_some_iff.1 hme).1 hl
          have e1 : vs[m]? = some (vs.getD m undef) := by simp [Array.getD, hlt]
          exact ⟨by rw [Nat.zero_add, cell_box hh, e1], hc m _ e e1 hme⟩) he
        rw [Nat.zero_add] at this
        obtain ⟨u, hu, hru⟩ := this
        exact ⟨u, run _ u rfl hu, hru⟩
      · cases he
    · rename_i cs blk base p c h1 h2
      obtain ⟨u, hu, hru⟩ := rd_rel (P := P) hT (fun m e hme => ⟨(h1 m e hme).2, h2 m e hme⟩) he
      exact ⟨u, run _ u rfl hu, hru⟩
  · cases hm

theorem pur_fld {y : A} {off k : Nat} {g : Bool} {cs : List D} (hm : mR P dp o.op (.fld off k g y) = true) (hf : Fr dp F G w a fr) (h1 : av fr y = .agg cs) (he : rdK cs off k g = some d) : Pur P dp F G w a o d := by
  simp only [mR] at hm
  split at hm
  · rename_i t x j ho
    simp only [Bool.and_eq_true] at hm
    obtain ⟨h2, h3⟩ := hm
    have hr := hf.eval h3
    rw [h1] at hr
    split at h2
    · rename_i fs hu
      split at h2
      · rename_i f hfj
        simp only [Bool.and_eq_true, beq_iff_eq] at h2
        obtain ⟨rfl, hT⟩ := h2
        obtain ⟨hag, hk⟩ := run_isAgg_of hT w
        generalize hv : a.eval x = v at hr
        cases hr with
        | agg vs ds hl h =>
          unfold rdK at he
          cases g with
          | true =>
            simp only [if_true] at he
            split at he
            · rename_i hle
              injection he with he
              subst he
              refine ⟨.agg (vs.extract f.offset (f.offset + k)), ?_, .agg _ _ (by simp; omega) fun j v e hv2 he => ?_⟩
              · simp only [execOp, ho, hv, Instr.field, Sem.run_bind, run_underlying hu, hfj, asAgg, Sem.run_pure, Result.andThen, part, hag, if_true, run_sizeOf_of (mT_sz hT) w]
              · rw [Array.getElem?_extract] at hv2
                split at hv2
                · rename_i hj
                  have hjk : j < k := by omega
                  rw [List.getElem?_take_of_lt hjk, List.getElem?_drop] at he
                  exact h _ v e hv2 he
                · cases hv2
            · cases he
          | false =>
            simp at he
            have hlt : f.offset < vs.size := by rw [hl]; exact (List.getElem?_eq_some_iff.1 he).1
            refine ⟨vs[f.offset], ?_, h f.offset _ d (Array.getElem?_eq_getElem hlt) he⟩
            simp only [execOp, ho, hv, Instr.field, Sem.run_bind, run_underlying hu, hfj, asAgg, Sem.run_pure, Result.andThen, part, hag, Bool.false_eq_true, if_false, Array.getElem?_eq_getElem hlt]
      · cases h2
    · cases h2
  · cases hm

theorem pur_ia {y i : A} {k : Nat} (hm : mR P dp o.op (.ia k y i) = true) (hf : Fr dp F G w a fr) (he : iaD k (av fr y) (av fr i) = some d) : Pur P dp F G w a o d := by
  simp only [mR] at hm
  split at hm
  · rename_i t x ix ho
    simp only [Bool.and_eq_true] at hm
    obtain ⟨⟨hU, hx⟩, hi⟩ := hm
    have hr := hf.eval hx
    have hri := hf.eval hi
    unfold mU at hU
    split at hU
    · rename_i td htd
      unfold isSliceOf at hU
      split at hU
      · rename_i el
        have run : ∀ b p len cap kk n, a.eval x = .slice (some ⟨b, p, none⟩) len cap → a.eval ix = .int kk n → 0 ≤ n → n < len → (execOp a.eval o).run P w = .ok (.value (.pointer (some ⟨b, p + n.toNat * k, none⟩))) w := by
          intro b p len cap kk n hv hvi h0 h1
          simp only [execOp, ho, hv, hvi, Instr.indexAt, asIntOf, Sem.run_bind, Sem.run_pure, run_underlying htd, Result.andThen, if_pos (And.intro h0 h1), run_sizeOf_of hU w, addr_add]
        generalize hvx : a.eval x = v at hr run
        generalize hvi : a.eval ix = u at hri run
        generalize av fr y = e at hr he
        generalize av fr i = e' at hri he
        unfold iaD at he
        split at he
        · rename_i k' nl xs ow kk n
          split at he
          · rename_i hc
            obtain ⟨h0, rfl⟩ := hc
            cases hri
            cases hxs : xs[n.toNat]? with
            | none => simp [hxs] at he
            | some cs =>
              simp only [hxs, Option.map_some, Option.some.injEq] at he
              subst he
              have hlt := (List.getElem?_eq_some_iff.1 hxs).1
              cases hr with
              | nil => simp at hlt
              | sl k xs o blk off cap c hk hcap h1 h2 hown =>
                refine ⟨_, run blk off xs.length cap kk n rfl rfl h0 (by omega), ?_⟩
                exact .el cs blk (off + n.toNat * k') 0 (c n.toNat) (fun m e hme => ⟨(h1 _ cs m e hxs hme).1, (h1 _ cs m e hxs hme).2.1⟩) (fun m e hme => h2 _ cs m e hxs hme)
          · cases he
        · rename_i k' id oo m kk n
          split at he
          · rename_i hc
            obtain ⟨h0, h1, rfl⟩ := hc
            injection he with he
            subst he
            cases hri
            cases hr with
            | ar k id o n cap g hg hn => exact ⟨_, run g.blk oo m cap kk _ rfl rfl h0 h1, .bx _ _ g hg⟩
          · cases he
        · cases he
      · cases hU
    · cases hU
  · cases hm

theorem pur_iaa {y i : A} {n k id off : Nat} {kk : IntKind} {m : Int} (hm : mR P dp o.op (.iaa n k y i) = true) (hf : Fr dp F G w a fr) (h1 : av fr y = .bx id off) (h2 : av fr i = .i kk m)
    (h0 : 0 ≤ m) (hlt : m < n) : Pur P dp F G w a o (.bx id (off + m.toNat * k)) := by
  simp only [mR] at hm
  split at hm
  · rename_i t x ix ho
    simp only [Bool.and_eq_true] at hm
    obtain ⟨⟨hU, hx⟩, hi⟩ := hm
    have hr := hf.eval hx
    have hri := hf.eval hi
    rw [h1] at hr
    rw [h2] at hri
    unfold mU at hU
    split at hU
    · rename_i td htd
      dsimp only at hU
      split at hU
      · rename_i mm el
        simp only [Bool.and_eq_true, beq_iff_eq] at hU
        obtain ⟨rfl, hsz⟩ := hU
        generalize hvx : a.eval x = v at hr
        generalize hvi : a.eval ix = u at hri
        cases hr with
        | bx id o g hg =>
          cases hri
          refine ⟨.pointer (some ⟨g.blk, off + m.toNat * k, none⟩), ?_, .bx _ _ g hg⟩
          simp only [execOp, ho, hvx, hvi, Instr.indexAt, Instr.sureAddr, asIntOf, Sem.run_bind, Sem.run_pure, run_underlying htd, Result.andThen, if_pos (And.intro h0 hlt), run_sizeOf_of hsz w, addr_add]
      · cases hU
    · cases hU
  · cases hm

theorem pur_ixs {y i : A} {l : List UInt8} {kk : IntKind} {m : Int} {c : UInt8} (hm : mR P dp o.op (.ixs y i) = true) (hf : Fr dp F G w a fr) (h1 : av fr y = .s l) (h2 : av fr i = .i kk m)
    (h0 : 0 ≤ m) (hc : l[m.toNat]? = some c) : Pur P dp F G w a o (.i .u8 c.toNat) := by
  simp only [mR] at hm
  split at hm
  · rename_i t x ix ho
    simp only [Bool.and_eq_true] at hm
    obtain ⟨⟨hU, hx⟩, hi⟩ := hm
    have hr := hf.eval hx
    have hri := hf.eval hi
    rw [h1] at hr
    rw [h2] at hri
    unfold mU at hU
    split at hU
    · rename_i td htd
      unfold isString at hU
      split at hU
      · generalize hvx : a.eval x = v at hr
        generalize hvi : a.eval ix = u at hri
        cases hr
        cases hri
        have hb : (⟨l.toArray⟩ : ByteArray)[m.toNat]? = some c := by
          have hlt := (List.getElem?_eq_some_iff.1 hc).1
          rw [getElem?_pos (⟨l.toArray⟩ : ByteArray) m.toNat (by show m.toNat < l.toArray.size; simpa using hlt)]
          rw [List.getElem?_eq_getElem hlt] at hc
          injection hc with hc
          rw [← hc]
          rfl
        refine ⟨.int .u8 c.toNat, ?_, .i _ _⟩
        simp only [execOp, ho, hvx, hvi, Instr.index, asIntOf, Sem.run_bind, Sem.run_pure, run_underlying htd, Result.andThen, if_pos h0, hb]
      · cases hU
    · cases hU
  · cases hm

end

end Go.Proofs.YtjlmeikcfdanmaaGreatDoor.DE
