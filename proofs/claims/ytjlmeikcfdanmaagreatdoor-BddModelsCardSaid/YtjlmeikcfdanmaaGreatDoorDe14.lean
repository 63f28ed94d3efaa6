/-
  ROWS: 'make', writings, 'clear', freezing.
-/
import Derived.Test.YtjlmeikcfdanmaaGreatDoorDe13
namespace Go.Proofs.YtjlmeikcfdanmaaGreatDoor.DE
open Go

section
variable {P : Program} {dp : Nat → Option Fn} {F F' : Fix} {G G' : List Gh} {w w' : World} {S S' : Store} {a : Act} {fr : List D} {o : Oper} {d : D}

theorem replicate_len {n k : Nat} {z : List D} (hz : z.length = k) : ∀ x ∈ List.replicate n z, x.length = k := by
  intro x hx
  rw [(List.mem_replicate.1 hx).2]
  exact hz

theorem replicate_get {n j : Nat} {z x : List D} (h : (List.replicate n z)[j]? = some x) : j < n ∧ x = z := by
  have h1 := (List.getElem?_eq_some_iff.1 h).1
  have h2 := List.mem_replicate.1 (List.mem_of_getElem? h)
  exact ⟨by simpa using h1, h2.2⟩

theorem mod_row {j k m : Nat} (hm : m < k) : (j * k + m) % k = m := by
  rw [Nat.add_comm, Nat.mul_comm, Nat.add_mul_mod_self_left, Nat.mod_eq_of_lt hm]

theorem made_get {z : Array Value} {n q : Nat} (hq : q < n) (hz : 0 < z.size) : ∃ h : q % z.size < z.size, (madeCells z n)[q]? = some z[q % z.size] := by
  refine ⟨Nat.mod_lt _ hz, ?_⟩
  simp [madeCells, hq, Nat.mod_lt _ hz]

theorem mem_get {l : List Value} {v : Value} {j : Nat} (h : l[j]? = some v) : v ∈ l := List.mem_of_getElem? h

theorem made_row {z : Array Value} {zs : List D} {n k : Nat} (hok : CellsOk dp F G w z zs) (h1 : ∀ u ∈ z.toList, u.oneCell' = true) (hz : zs.length = k) (hk : 0 < k) : RowOk dp F G w k (madeCells z (n * k)) (List.replicate n zs) := by
  refine ⟨replicate_len hz, fun j x m d hx hd => ?_⟩
  obtain ⟨hj, rfl⟩ := replicate_get hx
  have hm : m < k := by
    have := (List.getElem?_eq_some_iff.1 hd).1
    omega
  have hsz : z.size = k := by rw [hok.1, hz]
  obtain ⟨h, hg⟩ := made_get (z := z) (lt_mul hj hm) (by omega)
  have e : (j * k + m) % z.size = m := by rw [hsz]; exact mod_row hm
  have hlt : m < z.size := by omega
  refine ⟨z[m], by rw [hg]; simp [e], h1 _ (by simp), hok.2 m _ d (Array.getElem?_eq_getElem hlt) hd⟩

theorem row_cells {k : Nat} {vs : Array Value} {xs : List (List D)} (h : RowOk dp F G w k vs xs) (hk : 0 < k) (hsz : vs.size = xs.length * k) : CellsOk dp F G w vs xs.flatten := by
  refine ⟨by rw [flatten_len h.1, hsz], fun q v d hv hd => ?_⟩
  rw [flatten_get hk q h.1] at hd
  cases hx : xs[q / k]? with
  | none => simp [hx] at hd
  | some x =>
    rw [hx] at hd
    obtain ⟨u, h1, h2, h3⟩ := h.2 (q / k) x (q % k) d hx (by simpa using hd)
    have : q / k * k + q % k = q := by rw [Nat.mul_comm]; exact Nat.div_add_mod q k
    rw [this, hv] at h1
    injection h1 with h1
    rw [h1]; exact h3

/-- What 'make' gives. -/
def mkslRes (k : Nat) (arr : Bool) (z : List D) (m : Nat) (S : Store) : D × Store :=
  if arr then (.ar k S.length 0 m, .box (List.replicate m z).flatten :: S)
  else (if m = 0 then (.sl k false [] .cap0, S) else (.sl k false (List.replicate m z) (.tok S.length), .tok true :: S))

theorem ok_mksl {k : Nat} {arr : Bool} {z : List D} {y : A} {kk : IntKind} {m : Int} (hm : mR P dp o.op (.mksl k arr z y) = true) (hs : Sim dp F G w S) (hf : Fr dp F G w a fr)
    (he : av fr y = .i kk m) (h0 : 0 ≤ m) (h1 : m ≤ maxLenD) : OpOk P dp F G w S a o (mkslRes k arr z m.toNat S).1 (mkslRes k arr z m.toNat S).2 := by
  simp only [mR] at hm
  split at hm
  · rename_i t x c ho
    simp only [Bool.and_eq_true] at hm
    obtain ⟨⟨hm, hx⟩, hc⟩ := hm
    split at hm
    · rename_i e hu
      simp only [Bool.and_eq_true, decide_eq_true_eq, beq_iff_eq] at hm
      obtain ⟨⟨⟨⟨hsz, hz⟩, hzl⟩, hk0⟩, hb⟩ := hm
      obtain ⟨i, v, hi, hv, hok, hone⟩ := mZ_zero (P := P) (dp := dp) (F := F) (G := G) (w := w) hz
      rw [hi] at hb
      simp only [decide_eq_true_eq] at hb
      have r1 := hf.eval hx
      have r2 := hf.eval hc
      rw [he] at r1 r2
      generalize hv1 : a.eval x = v1 at r1
      generalize hv2 : a.eval c = v2 at r2
      cases r1; cases r2
      have hisz : i.size = k := by
        unfold mSz at hsz
        rw [hi] at hsz
        simpa using hsz
      simp only [maxLenD] at h1
      have hbytes : (i.bytes : Int) * m ≤ 281474976710656 := by
        have e1 : (i.bytes : Int) ≤ 65536 := by omega
        have e2 : (i.bytes : Int) * m ≤ 65536 * 1048576 := Int.mul_le_mul e1 h1 h0 (by omega)
        omega
      have hrun : (execOp a.eval o).run P w = .ok (.value (.slice (some ⟨w.heap.size, 0, none⟩) m.toNat m.toNat)) (w.alloc (.cells (madeCells v.cells (m.toNat * k)) e)) := by
        have hr := run_make (P := P) w t e i v hu hi hv kk kk m m h0 (Int.le_refl _) hbytes (by omega)
        rw [hisz] at hr
        simp only [execOp, ho, hv1, hv2, Sem.run_bind, hr, Result.andThen, Sem.run_pure]
      have hrow := made_row (n := m.toNat) hok hone hzl hk0
      have hlen : (List.replicate m.toNat z).length = m.toNat := by simp
      unfold mkslRes
      cases arr with
      | true =>
        simp only [if_true]
        have hcells := row_cells hrow hk0 (by rw [size_madeCells, hlen])
        refine opOk_value hrun (hs.pushBox (grown_alloc _ _) hcells.le (fun u hu => ?_) rfl fun _ _ h => .inl h) (.ar k _ 0 _ _ ⟨w.heap.size, 0, 0⟩ (by rw [← hs.len, sget_top]) (Nat.le_refl _))
        obtain ⟨q, hq, rfl⟩ := List.getElem_of_mem hu
        have hq' : q < m.toNat * k := by simpa [size_madeCells] using hq
        have hvs : 0 < v.cells.size := by rw [hok.1]; omega
        obtain ⟨hh, hg⟩ := made_get (z := v.cells) hq' hvs
        rw [Array.getElem_toList, Array.getElem?_eq_getElem (by simpa using hq)] at *
        injection hg with hg
        rw [hg]
        exact hone _ (by simp)
      | false =>
        simp only [Bool.false_eq_true, if_false]
        split
        · rename_i hm0
          have : m.toNat = 0 := hm0
          rw [this] at hrow hrun
          obtain ⟨a1, a2⟩ := hs.fixRow (cap := 0) (grown_alloc w _) hrow (by simp [size_madeCells]) (by simp) (ow := .cap0) (.inr ⟨rfl, rfl⟩)
          exact opOk_value hrun a1 a2
        · obtain ⟨a1, a2⟩ := hs.pushRow (cap := m.toNat) (grown_alloc w _) hrow (by simp [size_madeCells]) (by simp) rfl (fun _ _ h => .inl h)
          rw [hlen] at a1 a2
          exact opOk_value hrun a1 a2
    · cases hm
  · cases hm

theorem splice_get : ∀ (ds z : List D) (o j : Nat), (splice z o ds)[j]? = if o ≤ j ∧ j < o + ds.length ∧ j < z.length then ds[j - o]? else z[j]?
  | [], z, o, j => by
    rw [if_neg (by simp only [List.length_nil]; omega)]; rfl
  | d :: ds, z, o, j => by
    simp only [splice]
    rw [splice_get ds, fset_length]
    simp only [List.length_cons]
    by_cases h : j = o
    · subst h
      rw [if_neg (by omega), fset_getElem?]
      by_cases hlt : j < z.length
      · rw [if_pos ⟨rfl, hlt⟩, if_pos (by omega)]; simp
      · rw [if_neg (fun h => hlt h.2), if_neg (by omega)]
    · by_cases h2 : o + 1 ≤ j ∧ j < o + 1 + ds.length ∧ j < z.length
      · rw [if_pos h2, if_pos (by omega), show j - o = (j - (o + 1)) + 1 by omega]; rfl
      · rw [if_neg h2, if_neg (by omega), fset_getElem?, if_neg (fun hh => h hh.1)]

theorem put_get (cur : Array Value) (vs : List Value) (o j : Nat) (h : o + vs.length ≤ cur.size) :
    ((cur.toList.take o ++ vs ++ cur.toList.drop (o + vs.length)).toArray)[j]? = if o ≤ j ∧ j < o + vs.length then vs[j - o]? else cur[j]? := by
  rw [List.getElem?_toArray, List.append_assoc]
  have hl : (cur.toList.take o).length = o := by simp; omega
  by_cases h1 : j < o
  · rw [if_neg (by omega), List.getElem?_append_left (by omega), List.getElem?_take_of_lt h1]; simp
  · rw [List.getElem?_append_right (by omega), hl]
    by_cases h2 : j < o + vs.length
    · rw [if_pos (by omega), List.getElem?_append_left (by omega)]
    · rw [if_neg (by omega), List.getElem?_append_right (by omega), List.getElem?_drop]
      rw [show o + vs.length + (j - o - vs.length) = j by omega]; simp

theorem put_size (cur : Array Value) (vs : List Value) (o : Nat) (h : o + vs.length ≤ cur.size) : ((cur.toList.take o ++ vs ++ cur.toList.drop (o + vs.length)).toArray).size = cur.size := by
  simp; omega

theorem put_one {cur : Array Value} {vs : List Value} {o : Nat} (h1 : ∀ u ∈ cur.toList, u.oneCell' = true) (h2 : ∀ u ∈ vs, u.oneCell' = true) :
    ∀ u ∈ ((cur.toList.take o ++ vs ++ cur.toList.drop (o + vs.length)).toArray).toList, u.oneCell' = true := by
  intro u hu
  simp only [List.append_assoc, List.mem_append] at hu
  rcases hu with hu | hu | hu
  · exact h1 u (List.mem_of_mem_take hu)
  · exact h2 u hu
  · exact h1 u (List.mem_of_mem_drop hu)

theorem CellsLe.put {cur : Array Value} {z ds : List D} {vs : List Value} {o : Nat} (h : CellsLe dp F G w cur z) (h2 : vs.length = ds.length)
    (h3 : ∀ (j : Nat) (v : Value) (d : D), vs[j]? = some v → ds[j]? = some d → Rel dp F G w v d) (hle : o + ds.length ≤ z.length) :
    CellsLe dp F G w ((cur.toList.take o ++ vs ++ cur.toList.drop (o + vs.length)).toArray) (DE.splice z o ds) := by
  have hc : o + vs.length ≤ cur.size := by rw [h2]; exact Nat.le_trans hle h.1
  refine ⟨by rw [put_size _ _ _ hc, splice_length]; exact h.1, fun j v d hv hd => ?_⟩
  rw [put_get _ _ _ _ hc] at hv
  rw [splice_get] at hd
  by_cases hj : o ≤ j ∧ j < o + ds.length
  · rw [if_pos (by omega)] at hv hd
    exact h3 _ _ _ hv hd
  · rw [if_neg (by omega)] at hv
    rw [if_neg (by omega)] at hd
    exact h.2 j v d hv hd

theorem wrote_setRow {b : Nat} {cur cs : Array Value} {T : TypeId} (h : w.heap[b]? = some (.cells cur T (0, 0))) : Wrote w b (.cells cs T (0, 0)) (w.setRow b cs) :=
  ⟨setRow_heap w b cur cs T _ h, fun k hk => setRow_other w b k cs (fun e => hk (by omega)), size_setRow w b cs, rfl, rfl, rfl⟩

/-- Writing into a variable. -/
theorem Sim.writeBox (hs : Sim dp F G w S) {id o : Nat} {g : Gh} {cs ds : List D} {vs : List Value} (he : sget S id = some (.box cs)) (hg : sget G id = some g) (h2 : vs.length = ds.length)
    (h3 : ∀ (j : Nat) (v : Value) (d : D), vs[j]? = some v → ds[j]? = some d → Rel dp F G w v d) (h1 : ∀ u ∈ vs, u.oneCell' = true) (hle : o + ds.length ≤ cs.length) :
    ∃ w', (storeCells ⟨g.blk, o, none⟩ vs).run P w = .ok () w' ∧ Sim dp F G w' (sset S id (.box (splice cs o ds))) ∧ Ext F G w S F G w' (sset S id (.box (splice cs o ds))) := by
  obtain ⟨cur, T, e1, e2, e3, e4, e5⟩ := hs.ent id _ g he hg
  have hst := run_storeCells_at P g.blk o T vs 0 cur w e1 (by omega) h1
  simp only [Nat.add_zero] at hst
  refine ⟨_, hst, ?_⟩
  have hok := CellsLe.put (o := o) ⟨e2, e5⟩ h2 h3 hle
  refine hs.write he hg trivial (wrote_setRow e1) (fun o h => (e3 o h).elim) (fun _ _ h => h) (fun _ _ h => .inl h)
    ⟨_, T, setRow_heap w g.blk cur _ T _ e1, hok.1, e3, put_one e4 h1, fun m v d hv hd => ?_⟩
  refine (hok.2 m v d hv hd).mono (fun _ _ h => h) (fun _ _ h => h) fun b o h => ?_
  refine World.cell?_of_block (a := ⟨b, o, none⟩) (setRow_other w g.blk b _ fun heq => ?_)
  exact e3 o (heq ▸ h)

theorem ok_st {k : Nat} {g : Bool} {x y : A} {id p : Nat} {cs ds : List D} (hm : mR P dp o.op (.st k g x y) = true) (hs : Sim dp F G w S) (hf : Fr dp F G w a fr)
    (h1 : av fr x = .bx id p) (h2 : sget S id = some (.box cs)) (h3 : cellsK k g (av fr y) = some ds) (h4 : p + k ≤ cs.length) :
    OpOk P dp F G w S a o (.tup []) (sset S id (.box (splice cs p ds))) := by
  simp only [mR] at hm
  split at hm
  · rename_i t xo vo ho
    simp only [Bool.and_eq_true] at hm
    obtain ⟨⟨hT, hx⟩, hv⟩ := hm
    have r1 := hf.eval hx
    have r2 := hf.eval hv
    rw [h1] at r1
    generalize hv1 : a.eval xo = v1 at r1
    generalize hv2 : a.eval vo = v2 at r2
    cases r1 with
    | bx _ _ gh hg =>
      obtain ⟨hok, hone⟩ := cellsK_ok r2 h3
      obtain ⟨l1, l2, l3⟩ := cellsK_rel r2 h3
      rw [mT_k hT] at l1
      obtain ⟨w', hw, hsim⟩ := hs.writeBox (P := P) (o := p) (vs := v2.cells.toList) h2 hg (by simpa using l2) (fun j v d hv hd => hok.2 j v d (by simpa using hv) hd) hone (by omega)
      refine opOk_skip ?_ hsim
      simp only [execOp, ho, hv1, hv2, Instr.storeAt, Instr.sureAddr, storeVar, Sem.run_bind, Sem.run_pure, Result.andThen, run_sizeOf_of (mT_sz hT) w]
      rw [if_neg (by rw [l2, l1]; simp)]
      simp only [hw]
  · cases hm

theorem sset_same {α : Type} : ∀ {l : List α} {id : Nat} {x : α}, sget l id = some x → sset l id x = l
  | [], _, _, h => by cases h
  | e :: l, id, x, h => by
    simp only [sget] at h
    simp only [sset]
    split
    · rename_i hid
      rw [if_pos hid] at h
      injection h with h
      rw [h]
    · rename_i hid
      rw [if_neg hid] at h
      rw [sset_same h]

theorem zero_row {z : Array Value} {zs : List D} {n k : Nat} (hok : CellsOk dp F G w z zs) (h1 : ∀ u ∈ z.toList, u.oneCell' = true) (hz : zs.length = k) (hk : 0 < k) :
    CellsOk dp F G w (Builtin.zeroCells z n) (List.replicate n zs).flatten ∧ ∀ u ∈ (Builtin.zeroCells z n).toList, u.oneCell' = true := by
  have hsz : z.size = k := by rw [hok.1, hz]
  have e : Builtin.zeroCells z n = madeCells z (n * k) := by simp only [Builtin.zeroCells, madeCells, hsz]
  rw [e]
  refine ⟨row_cells (made_row hok h1 hz hk) hk (by simp [size_madeCells]), fun u hu => ?_⟩
  obtain ⟨q, hq, rfl⟩ := List.getElem_of_mem hu
  have hq' : q < n * k := by simpa [size_madeCells] using hq
  obtain ⟨hh, hg⟩ := made_get (z := z) hq' (by omega)
  rw [Array.getElem_toList]
  rw [Array.getElem?_eq_getElem (by simpa using hq)] at hg
  injection hg with hg
  rw [hg]
  exact h1 _ (by simp)

theorem ok_clr {k : Nat} {z : List D} {x : A} {S' : Store} (hm : mR P dp o.op (.clr k z x) = true) (hs : Sim dp F G w S) (hf : Fr dp F G w a fr)
    (he : (∃ id p n cs, av fr x = .ar k id p n ∧ z.length = k ∧ sget S id = some (.box cs) ∧ p + n * k ≤ cs.length ∧ S' = sset S id (.box (splice cs p (List.replicate n z).flatten))) ∨
      (∃ k' nl ow, av fr x = .sl k' nl [] ow ∧ S' = S)) : OpOk P dp F G w S a o (.tup []) S' := by
  simp only [mR] at hm
  split at hm
  · rename_i c ho
    simp only [Bool.and_eq_true] at hm
    obtain ⟨⟨hb, ht⟩, hargs⟩ := hm
    split at hb
    · rename_i hcal
      split at ht
      · rename_i t hts
        split at ht
        · rename_i e hu
          simp only [Bool.and_eq_true] at ht
          obtain ⟨hsz, hz⟩ := ht
          obtain ⟨i, v, hi, hv, hok, hone⟩ := mZ_zero (P := P) (dp := dp) (F := F) (G := G) (w := w) hz
          have hat : c.argTypes[0]? = some t := by
            rw [← Array.getElem?_toList, hts]; rfl
          obtain ⟨e1, e2, e3⟩ := hf.evals hargs
          have hl : c.args.toList.length = 1 := by rw [e1]; rfl
          match hx : c.args.toList, hl with
          | [x1], _ =>
            rw [hx] at hargs
            simp only [mAs, Bool.and_eq_true] at hargs
            have r1 := hf.eval hargs.1
            have ha0 : (c.args.map a.eval)[0]? = some (a.eval x1) := by
              rw [← Array.getElem?_toList]; simp [hx]
            have run : ∀ w', (Builtin.clear_ c.argTypes o.type (c.args.map a.eval)).run P w = .ok (.tuple #[]) w' → (execOp a.eval o).run P w = .ok (.value (.tuple #[])) w' := by
              intro w' h
              simp only [execOp, ho, resolve, hcal, Sem.run_bind, Sem.run_pure, Result.andThen, invoke, builtin, h]
            have rel : ∀ {F' : Fix} {G' : List Gh} {w'}, Rel dp F' G' w' (.tuple #[]) (.tup []) := .tup _ _ rfl fun j v d h => by simp at h
            rcases he with ⟨id, p, n, cs, h1, hzk, h2, h3, rfl⟩ | ⟨k', nl, ow, h1, rfl⟩
            · rw [h1] at r1
              generalize hv1 : a.eval x1 = v1 at r1 ha0
              cases r1 with
              | ar _ _ _ _ cap gh hg hn =>
                cases n with
                | zero =>
                  simp only [List.replicate_zero, List.flatten_nil, splice, sset_same h2]
                  refine opOk_value (run w ?_) ⟨hs, Ext.refl _ _ _ _⟩ rel
                  simp only [Builtin.clear_, hat, ha0, Sem.run_bind, run_underlying hu, Result.andThen]
                  rfl
                | succ n =>
                  have hk : z.length = k := hzk
                  have hk0 : 0 < k ∨ k = 0 := by omega
                  obtain ⟨hok2, hone2⟩ : CellsOk dp F G w (Builtin.zeroCells v.cells (n + 1)) (List.replicate (n + 1) z).flatten ∧ ∀ u ∈ (Builtin.zeroCells v.cells (n + 1)).toList, u.oneCell' = true := by
                    rcases hk0 with hk0 | hk0
                    · exact zero_row hok hone hk hk0
                    · have hz0 : z = [] := List.eq_nil_of_length_eq_zero (by omega)
                      have hv0 : v.cells.size = 0 := by rw [hok.1, hz0]; rfl
                      have : Builtin.zeroCells v.cells (n + 1) = #[] := by simp [Builtin.zeroCells, hv0, Array.range_zero']
                      rw [this, hz0]
                      exact ⟨⟨by simp, fun j v d h => by simp at h⟩, by simp⟩
                  have hlen : (List.replicate (n + 1) z).flatten.length = (n + 1) * k := by simp [hk]
                  obtain ⟨w', hw, hsim⟩ := hs.writeBox (P := P) (o := p) (vs := (Builtin.zeroCells v.cells (n + 1)).toList) h2 hg (by simpa using hok2.1) (fun j v d hv hd => hok2.2 j v d (by simpa using hv) hd) hone2 (by omega)
                  refine opOk_value (run w' ?_) hsim rel
                  simp only [Builtin.clear_, hat, ha0, Sem.run_bind, run_underlying hu, Result.andThen, zeroValue, typeInfo, run_program, hi, hv, Sem.run_pure, hw]
            · rw [h1] at r1
              generalize hv1 : a.eval x1 = v1 at r1 ha0
              refine opOk_value (run w ?_) ⟨hs, Ext.refl _ _ _ _⟩ rel
              cases r1 <;> simp only [Builtin.clear_, hat, ha0, Sem.run_bind, run_underlying hu, Result.andThen] <;> rfl
        · cases ht
      · cases ht
    · cases hb
  · cases hm

end

end Go.Proofs.YtjlmeikcfdanmaaGreatDoor.DE
