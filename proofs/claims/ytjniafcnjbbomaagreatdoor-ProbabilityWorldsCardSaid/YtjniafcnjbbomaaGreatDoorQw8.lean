/-
  SEVERAL TEXTS IN ONE (joined by tools/asm3.py of this repository): De14, De15, De16, De17, De18, De19.
-/
import Derived.Test.YtjniafcnjbbomaaGreatDoorQw7
import Derived.MapKept
import Derived.Orders
set_option linter.unusedVariables false
set_option linter.unusedSimpArgs false
namespace Go.Proofs.YtjniafcnjbbomaaGreatDoor.DE
open Go

section
variable {P : Program} {dp : Nat → Option Fn} {F F' : Fix} {G G' : List Gh} {w w' : World} {S S' : Store} {a : Act} {fr : List D} {o : Oper} {d : D}

theorem replicate_len {n k : Nat} {z : List D} (hz : z.length = k) : ∀ x ∈ List.replicate n z, x.length = k := by
  intro x hx
  rw [(List.mem_replicate.1 hx).2]
  exact hz

theorem replicate_get {n j : Nat} {z x : List D} (h : (List.replicate n z)[j]? = some x) : j < n ∧ x = z := by
  have h1 := (List.getElem?_eq_some_iff.1 h).1
  have h2 := List.mem_replicate.1 (List.mem_of_getElem? h)
  exact ⟨by simpa using h1, h2.2⟩

theorem mod_row {j k m : Nat} (hm : m < k) : (j * k + m) % k = m := by
  rw [Nat.add_comm, Nat.mul_comm, Nat.add_mul_mod_self_left, Nat.mod_eq_of_lt hm]

theorem made_get {z : Array Value} {n q : Nat} (hq : q < n) (hz : 0 < z.size) : ∃ h : q % z.size < z.size, (madeCells z n)[q]? = some z[q % z.size] := by
  refine ⟨Nat.mod_lt _ hz, ?_⟩
  simp [madeCells, hq, Nat.mod_lt _ hz]

theorem made_row {z : Array Value} {zs : List D} {n k : Nat} (hok : CellsOk dp F G w z zs) (h1 : ∀ u ∈ z.toList, u.oneCell' = true) (hz : zs.length = k) (hk : 0 < k) : RowOk dp F G w k (madeCells z (n * k)) (List.replicate n zs) := by
  refine ⟨replicate_len hz, fun j x m d hx hd => ?_⟩
  obtain ⟨hj, rfl⟩ := replicate_get hx
  have hm : m < k := by
    have := (List.getElem?_eq_some_iff.1 hd).1
    omega
  have hsz : z.size = k := by rw [hok.1, hz]
  obtain ⟨h, hg⟩ := made_get (z := z) (lt_mul hj hm) (by omega)
  have e : (j * k + m) % z.size = m := by rw [hsz]; exact mod_row hm
  have hlt : m < z.size := by omega
  refine ⟨z[m], by rw [hg]; simp [e], h1 _ (by simp), hok.2 m _ d (Array.getElem?_eq_getElem hlt) hd⟩

theorem row_cells {k : Nat} {vs : Array Value} {xs : List (List D)} (h : RowOk dp F G w k vs xs) (hk : 0 < k) (hsz : vs.size = xs.length * k) : CellsOk dp F G w vs xs.flatten := by
  refine ⟨by rw [flatten_len h.1, hsz], fun q v d hv hd => ?_⟩
  rw [flatten_get hk q h.1] at hd
  cases hx : xs[q / k]? with
  | none => simp [hx] at hd
  | some x =>
    rw [hx] at hd
    obtain ⟨u, h1, h2, h3⟩ := h.2 (q / k) x (q % k) d hx (by simpa using hd)
    have : q / k * k + q % k = q := by rw [Nat.mul_comm]; exact Nat.div_add_mod q k
    rw [this, hv] at h1
    injection h1 with h1
    rw [h1]; exact h3

/-- What 'make' gives. -/
def mkslRes (k : Nat) (arr : Bool) (z : List D) (m : Nat) (S : Store) : D × Store :=
  if arr then (.ar k S.length 0 m, .box (List.replicate m z).flatten :: S)
  else (if m = 0 then (.sl k false [] .cap0, S) else (.sl k false (List.replicate m z) (.tok S.length), .tok true :: S))

theorem ok_mksl {k : Nat} {arr : Bool} {z : List D} {y : A} {kk : IntKind} {m : Int} (hm : mR P dp o.op (.mksl k arr z y) = true) (hs : Sim dp F G w S) (hf : Fr dp F G w a fr)
    (he : av fr y = .i kk m) (h0 : 0 ≤ m) (h1 : m ≤ maxLenD) : OpOk P dp F G w S a o (mkslRes k arr z m.toNat S).1 (mkslRes k arr z m.toNat S).2 := by
  simp only [mR] at hm
  split at hm
  · rename_i t x c ho
    simp only [Bool.and_eq_true] at hm
    obtain ⟨⟨hm, hx⟩, hc⟩ := hm
    split at hm
    · rename_i e hu
      simp only [Bool.and_eq_true, decide_eq_true_eq, beq_iff_eq] at hm
      obtain ⟨⟨⟨⟨hsz, hz⟩, hzl⟩, hk0⟩, hb⟩ := hm
      obtain ⟨i, v, hi, hv, hok, hone⟩ := mZ_zero (P := P) (dp := dp) (F := F) (G := G) (w := w) hz
      rw [hi] at hb
      simp only [decide_eq_true_eq] at hb
      have r1 := hf.eval hx
      have r2 := hf.eval hc
      rw [he] at r1 r2
      generalize hv1 : a.eval x = v1 at r1
      generalize hv2 : a.eval c = v2 at r2
      cases r1; cases r2
      have hisz : i.size = k := by
        unfold mSz at hsz
        rw [hi] at hsz
        simpa using hsz
      simp only [maxLenD] at h1
      have hbytes : (i.bytes : Int) * m ≤ 281474976710656 := by
        have e1 : (i.bytes : Int) ≤ 65536 := by omega
        have e2 : (i.bytes : Int) * m ≤ 65536 * 1048576 := Int.mul_le_mul e1 h1 h0 (by omega)
        omega
      have hrun : (execOp a.eval o).run P w = .ok (.value (.slice (some ⟨w.heap.size, 0, none⟩) m.toNat m.toNat)) (w.alloc (.cells (madeCells v.cells (m.toNat * k)) e)) := by
        have hr := run_make (P := P) w t e i v hu hi hv kk kk m m h0 (Int.le_refl _) hbytes (by omega)
        rw [hisz] at hr
        simp only [execOp, ho, hv1, hv2, Sem.run_bind, hr, Result.andThen, Sem.run_pure]
      have hrow := made_row (n := m.toNat) hok hone hzl hk0
      have hlen : (List.replicate m.toNat z).length = m.toNat := by simp
      unfold mkslRes
      cases arr with
      | true =>
        simp only [if_true]
        have hcells := row_cells hrow hk0 (by rw [size_madeCells, hlen])
        refine opOk_value hrun (hs.pushBoxH (m.toNat * k) (grown_alloc _ _) hcells.le (fun u hu => ?_) rfl (fun _ _ h => .inl h) (by rw [size_madeCells]; exact Nat.le_refl _)) (.ar k _ 0 _ _ ⟨w.heap.size, 0, m.toNat * k⟩ (by rw [← hs.len, sget_top]) ⟨Nat.le_refl _, by simp⟩)
        obtain ⟨q, hq, rfl⟩ := List.getElem_of_mem hu
        have hq' : q < m.toNat * k := by simpa [size_madeCells] using hq
        have hvs : 0 < v.cells.size := by rw [hok.1]; omega
        obtain ⟨hh, hg⟩ := made_get (z := v.cells) hq' hvs
        rw [Array.getElem_toList, Array.getElem?_eq_getElem (by simpa using hq)] at *
        injection hg with hg
        rw [hg]
        exact hone _ (by simp)
      | false =>
        simp only [Bool.false_eq_true, if_false]
        split
        · rename_i hm0
          have : m.toNat = 0 := hm0
          rw [this] at hrow hrun
          obtain ⟨a1, a2⟩ := hs.fixRow (cap := 0) (grown_alloc w _) hrow (by simp [size_madeCells]) (by simp) (ow := .cap0) (.inr ⟨rfl, rfl⟩)
          exact opOk_value hrun a1 a2
        · obtain ⟨a1, a2⟩ := hs.pushRow (cap := m.toNat) (grown_alloc w _) hrow (by simp [size_madeCells]) (by simp) rfl (fun _ _ h => .inl h)
          rw [hlen] at a1 a2
          exact opOk_value hrun a1 a2
    · cases hm
  · cases hm

theorem splice_get : ∀ (ds z : List D) (o j : Nat), (splice z o ds)[j]? = if o ≤ j ∧ j < o + ds.length ∧ j < z.length then ds[j - o]? else z[j]?
  | [], z, o, j => by
    rw [if_neg (by simp only [List.length_nil]; omega)]; rfl
  | d :: ds, z, o, j => by
    simp only [splice]
    rw [splice_get ds, fset_length]
    simp only [List.length_cons]
    by_cases h : j = o
    · subst h
      rw [if_neg (by omega), fset_getElem?]
      by_cases hlt : j < z.length
      · rw [if_pos ⟨rfl, hlt⟩, if_pos (by omega)]; simp
      · rw [if_neg (fun h => hlt h.2), if_neg (by omega)]
    · by_cases h2 : o + 1 ≤ j ∧ j < o + 1 + ds.length ∧ j < z.length
      · rw [if_pos h2, if_pos (by omega), show j - o = (j - (o + 1)) + 1 by omega]; rfl
      · rw [if_neg h2, if_neg (by omega), fset_getElem?, if_neg (fun hh => h hh.1)]

theorem put_get (cur : Array Value) (vs : List Value) (o j : Nat) (h : o + vs.length ≤ cur.size) :
    ((cur.toList.take o ++ vs ++ cur.toList.drop (o + vs.length)).toArray)[j]? = if o ≤ j ∧ j < o + vs.length then vs[j - o]? else cur[j]? := by
  rw [List.getElem?_toArray, List.append_assoc]
  have hl : (cur.toList.take o).length = o := by simp; omega
  by_cases h1 : j < o
  · rw [if_neg (by omega), List.getElem?_append_left (by omega), List.getElem?_take_of_lt h1]; simp
  · rw [List.getElem?_append_right (by omega), hl]
    by_cases h2 : j < o + vs.length
    · rw [if_pos (by omega), List.getElem?_append_left (by omega)]
    · rw [if_neg (by omega), List.getElem?_append_right (by omega), List.getElem?_drop]
      rw [show o + vs.length + (j - o - vs.length) = j by omega]; simp

theorem put_size (cur : Array Value) (vs : List Value) (o : Nat) (h : o + vs.length ≤ cur.size) : ((cur.toList.take o ++ vs ++ cur.toList.drop (o + vs.length)).toArray).size = cur.size := by
  simp; omega

theorem put_one {cur : Array Value} {vs : List Value} {o : Nat} (h1 : ∀ u ∈ cur.toList, u.oneCell' = true) (h2 : ∀ u ∈ vs, u.oneCell' = true) :
    ∀ u ∈ ((cur.toList.take o ++ vs ++ cur.toList.drop (o + vs.length)).toArray).toList, u.oneCell' = true := by
  intro u hu
  simp only [List.append_assoc, List.mem_append] at hu
  rcases hu with hu | hu | hu
  · exact h1 u (List.mem_of_mem_take hu)
  · exact h2 u hu
  · exact h1 u (List.mem_of_mem_drop hu)

theorem CellsLe.put {cur : Array Value} {z ds : List D} {vs : List Value} {o : Nat} (h : CellsLe dp F G w cur z) (h2 : vs.length = ds.length)
    (h3 : ∀ (j : Nat) (v : Value) (d : D), vs[j]? = some v → ds[j]? = some d → Rel dp F G w v d) (hle : o + ds.length ≤ z.length) :
    CellsLe dp F G w ((cur.toList.take o ++ vs ++ cur.toList.drop (o + vs.length)).toArray) (DE.splice z o ds) := by
  have hc : o + vs.length ≤ cur.size := by rw [h2]; exact Nat.le_trans hle h.1
  refine ⟨by rw [put_size _ _ _ hc, splice_length]; exact h.1, fun j v d hv hd => ?_⟩
  rw [put_get _ _ _ _ hc] at hv
  rw [splice_get] at hd
  by_cases hj : o ≤ j ∧ j < o + ds.length
  · rw [if_pos (by omega)] at hv hd
    exact h3 _ _ _ hv hd
  · rw [if_neg (by omega)] at hv
    rw [if_neg (by omega)] at hd
    exact h.2 j v d hv hd

theorem wrote_setRow {b : Nat} {cur cs : Array Value} {T : TypeId} (h : w.heap[b]? = some (.cells cur T (0, 0))) : Wrote w b (.cells cs T (0, 0)) (w.setRow b cs) :=
  ⟨setRow_heap w b cur cs T _ h, fun k hk => setRow_other w b k cs (fun e => hk (by omega)), size_setRow w b cs, rfl, rfl, rfl⟩

theorem ok_bsa {k : Nat} {g : Bool} {ys : List A} {l : List (List D)} (hm : mR P dp o.op (.bsa k g ys) = true) (hs : Sim dp F G w S) (hf : Fr dp F G w a fr) (he : cellsAll fr k g ys = some l) :
    OpOk P dp F G w S a o (.ar k S.length 0 l.length) (.box l.flatten :: S) := by
  simp only [mR] at hm
  split at hm
  · rename_i t len parts ho
    split at hm
    · rename_i e hu
      simp only [Bool.and_eq_true, decide_eq_true_eq, beq_iff_eq] at hm
      obtain ⟨⟨⟨⟨⟨⟨hT, hk0⟩, hk1⟩, rfl⟩, hlen⟩, hz⟩, hel⟩ := hm
      obtain ⟨ie, hie, hsz⟩ := mT_size hT
      rw [hie] at hz
      dsimp only at hz
      split at hz
      · rename_i z hzv
        simp only [beq_iff_eq] at hz
        have hl := cellsAll_length he
        obtain ⟨cells', c1, c2, c3, c4, c5, c6⟩ := fill_elems (P := P) (cells := (Array.range (ys.length * ie.size)).map (z.cells[· % z.cells.size]!)) hf hT hel he (by simp [hsz])
        have hrow : RowOk dp F G w k cells' l := ⟨c5, fun j x m d hx hd => by simpa using c6 j x m d hx hd⟩
        have hcs : cells'.size = l.length * k := by rw [c2, hl]; simp [hsz]
        have hrun : (execOp a.eval o).run P w = .ok (.value (.slice (some ⟨w.heap.size, 0, none⟩) l.length l.length)) (w.alloc (.cells cells' e)) := by
          by_cases h0 : ys.length = 0
          · have hy : ys = [] := List.eq_nil_of_length_eq_zero h0
            subst hy
            have hp : parts.toList = [] := by
              cases hp : parts.toList with
              | nil => rfl
              | cons x l => rw [hp] at hel; simp [mElems] at hel
            have hp' : parts = #[] := by simpa using hp
            subst hp'
            have hcells : cells' = #[] := by
              rw [← Array.size_eq_zero_iff, hcs, hl]; simp
            rw [hl]
            simp [execOp, ho, Instr.buildSlice, run_underlying hu, sizeOf, typeInfo, hie, Instr.fill, newRow, hcells, Array.range_zero']
          · have hb := run_buildSlice (P := P) w t e ys.length (parts.map fun (i, x) => (i, a.eval x)) cells' ie z hu hie hzv (by
              rw [hsz]
              have : ys.length * k ≤ 1024 * 4096 := Nat.mul_le_mul hlen hk1
              omega) (by rw [hsz]; exact Nat.mul_ne_zero h0 (by omega)) (by rw [hsz]; rw [hsz] at c1; simpa using c1)
            rw [hl]
            simp only [execOp, ho, Sem.run_bind, hb, Result.andThen, Sem.run_pure]
        have hcells := row_cells hrow hk0 hcs
        refine opOk_value hrun (hs.pushBoxH (l.length * k) (grown_alloc _ _) hcells.le (fun u hu => ?_) rfl (fun _ _ h => .inl h) (by rw [hcs]; exact Nat.le_refl _)) (.ar k _ 0 _ _ ⟨w.heap.size, 0, l.length * k⟩ (by rw [← hs.len, sget_top]) ⟨Nat.le_refl _, by simp⟩)
        obtain ⟨q, hq, rfl⟩ := List.getElem_of_mem hu
        have hq' : q < l.length * k := by rw [← hcs]; simpa using hq
        have hqk : q / k < l.length := (Nat.div_lt_iff_lt_mul hk0).2 hq'
        have hqm : q % k < k := Nat.mod_lt _ hk0
        have hx := List.getElem?_eq_getElem hqk
        have hxl := hrow.1 _ (List.mem_of_getElem? hx)
        obtain ⟨v, e1, e2, _⟩ := hrow.2 (q / k) _ (q % k) _ hx (List.getElem?_eq_getElem (by rw [hxl]; exact hqm))
        rw [Nat.mul_comm (q / k), Nat.div_add_mod] at e1
        obtain ⟨h1, h2⟩ := Array.getElem?_eq_some_iff.1 e1
        simp only [Array.getElem_toList]
        rw [h2]; exact e2
      · cases hz
    · cases hm
  · cases hm

/-- Writing into a variable. -/
theorem Sim.writeBox (hs : Sim dp F G w S) {id o : Nat} {g : Gh} {cs ds : List D} {vs : List Value} (he : sget S id = some (.box cs)) (hg : sget G id = some g) (h2 : vs.length = ds.length)
    (h3 : ∀ (j : Nat) (v : Value) (d : D), vs[j]? = some v → ds[j]? = some d → Rel dp F G w v d) (h1 : ∀ u ∈ vs, u.oneCell' = true) (hle : o + ds.length ≤ cs.length) :
    ∃ w', (storeCells ⟨g.blk, o, none⟩ vs).run P w = .ok () w' ∧ Sim dp F G w' (sset S id (.box (splice cs o ds))) ∧ Ext F G w S F G w' (sset S id (.box (splice cs o ds))) := by
  obtain ⟨cur, T, e1, ⟨e2, e2h⟩, e3, e4, e5⟩ := hs.ent id _ g he hg
  have hst := run_storeCells_at P g.blk o T vs 0 cur w e1 (by omega) h1
  simp only [Nat.add_zero] at hst
  refine ⟨_, hst, ?_⟩
  have hok := CellsLe.put (o := o) ⟨e2, e5⟩ h2 h3 hle
  refine hs.write he hg trivial (wrote_setRow e1) (fun o h => (e3 o h).elim) (fun _ _ h => h) (fun _ _ h => .inl h)
    ⟨_, T, setRow_heap w g.blk cur _ T _ e1, ⟨hok.1, by rw [put_size _ _ _ (by omega)]; exact e2h⟩, e3, put_one e4 h1, fun m v d hv hd => ?_⟩
  refine (hok.2 m v d hv hd).mono (fun _ _ h => h) (fun _ _ h => h) fun b o h => ?_
  refine World.cell?_of_block (a := ⟨b, o, none⟩) (setRow_other w g.blk b _ fun heq => ?_)
  exact e3 o (heq ▸ h)

theorem ok_st {k : Nat} {g : Bool} {x y : A} {id p : Nat} {cs ds : List D} (hm : mR P dp o.op (.st k g x y) = true) (hs : Sim dp F G w S) (hf : Fr dp F G w a fr)
    (h1 : av fr x = .bx id p) (h2 : sget S id = some (.box cs)) (h3 : cellsK k g (av fr y) = some ds) (h4 : p + k ≤ cs.length) :
    OpOk P dp F G w S a o (.tup []) (sset S id (.box (splice cs p ds))) := by
  simp only [mR] at hm
  split at hm
  · rename_i t xo vo ho
    simp only [Bool.and_eq_true] at hm
    obtain ⟨⟨hT, hx⟩, hv⟩ := hm
    have r1 := hf.eval hx
    have r2 := hf.eval hv
    rw [h1] at r1
    generalize hv1 : a.eval xo = v1 at r1
    generalize hv2 : a.eval vo = v2 at r2
    cases r1 with
    | bx _ _ gh hg =>
      obtain ⟨hok, hone⟩ := cellsK_ok r2 h3
      obtain ⟨l1, l2, l3⟩ := cellsK_rel r2 h3
      rw [mT_k hT] at l1
      obtain ⟨w', hw, hsim⟩ := hs.writeBox (P := P) (o := p) (vs := v2.cells.toList) h2 hg (by simpa using l2) (fun j v d hv hd => hok.2 j v d (by simpa using hv) hd) hone (by omega)
      refine opOk_skip ?_ hsim
      simp only [execOp, ho, hv1, hv2, Instr.storeAt, Instr.sureAddr, storeVar, Sem.run_bind, Sem.run_pure, Result.andThen, run_sizeOf_of (mT_sz hT) w]
      rw [if_neg (by rw [l2, l1]; simp)]
      simp only [hw]
  · cases hm

theorem sset_same {α : Type} : ∀ {l : List α} {id : Nat} {x : α}, sget l id = some x → sset l id x = l
  | [], _, _, h => by cases h
  | e :: l, id, x, h => by
    simp only [sget] at h
    simp only [sset]
    split
    · rename_i hid
      rw [if_pos hid] at h
      injection h with h
      rw [h]
    · rename_i hid
      rw [if_neg hid] at h
      rw [sset_same h]

theorem zero_row {z : Array Value} {zs : List D} {n k : Nat} (hok : CellsOk dp F G w z zs) (h1 : ∀ u ∈ z.toList, u.oneCell' = true) (hz : zs.length = k) (hk : 0 < k) :
    CellsOk dp F G w (Builtin.zeroCells z n) (List.replicate n zs).flatten ∧ ∀ u ∈ (Builtin.zeroCells z n).toList, u.oneCell' = true := by
  have hsz : z.size = k := by rw [hok.1, hz]
  have e : Builtin.zeroCells z n = madeCells z (n * k) := by simp only [Builtin.zeroCells, madeCells, hsz]
  rw [e]
  refine ⟨row_cells (made_row hok h1 hz hk) hk (by simp [size_madeCells]), fun u hu => ?_⟩
  obtain ⟨q, hq, rfl⟩ := List.getElem_of_mem hu
  have hq' : q < n * k := by simpa [size_madeCells] using hq
  obtain ⟨hh, hg⟩ := made_get (z := z) hq' (by omega)
  rw [Array.getElem_toList]
  rw [Array.getElem?_eq_getElem (by simpa using hq)] at hg
  injection hg with hg
  rw [hg]
  exact h1 _ (by simp)

theorem ok_clr {k : Nat} {z : List D} {x : A} {S' : Store} (hm : mR P dp o.op (.clr k z x) = true) (hs : Sim dp F G w S) (hf : Fr dp F G w a fr)
    (he : (∃ id p n cs, av fr x = .ar k id p n ∧ z.length = k ∧ sget S id = some (.box cs) ∧ p + n * k ≤ cs.length ∧ S' = sset S id (.box (splice cs p (List.replicate n z).flatten))) ∨
      (∃ k' nl ow, av fr x = .sl k' nl [] ow ∧ S' = S)) : OpOk P dp F G w S a o (.tup []) S' := by
  simp only [mR] at hm
  split at hm
  · rename_i c ho
    simp only [Bool.and_eq_true] at hm
    obtain ⟨⟨hb, ht⟩, hargs⟩ := hm
    split at hb
    · rename_i hcal
      split at ht
      · rename_i t hts
        split at ht
        · rename_i e hu
          simp only [Bool.and_eq_true] at ht
          obtain ⟨hsz, hz⟩ := ht
          obtain ⟨i, v, hi, hv, hok, hone⟩ := mZ_zero (P := P) (dp := dp) (F := F) (G := G) (w := w) hz
          have hat : c.argTypes[0]? = some t := by
            rw [← Array.getElem?_toList, hts]; rfl
          obtain ⟨e1, e2, e3⟩ := hf.evals hargs
          have hl : c.args.toList.length = 1 := by rw [e1]; rfl
          match hx : c.args.toList, hl with
          | [x1], _ =>
            rw [hx] at hargs
            simp only [mAs, Bool.and_eq_true] at hargs
            have r1 := hf.eval hargs.1
            have ha0 : (c.args.map a.eval)[0]? = some (a.eval x1) := by
              rw [← Array.getElem?_toList]; simp [hx]
            have run : ∀ w', (Builtin.clear_ c.argTypes o.type (c.args.map a.eval)).run P w = .ok (.tuple #[]) w' → (execOp a.eval o).run P w = .ok (.value (.tuple #[])) w' := by
              intro w' h
              simp only [execOp, ho, resolve, hcal, Sem.run_bind, Sem.run_pure, Result.andThen, invoke, builtin, h]
            have rel : ∀ {F' : Fix} {G' : List Gh} {w'}, Rel dp F' G' w' (.tuple #[]) (.tup []) := .tup _ _ rfl fun j v d h => by simp at h
            rcases he with ⟨id, p, n, cs, h1, hzk, h2, h3, rfl⟩ | ⟨k', nl, ow, h1, rfl⟩
            · rw [h1] at r1
              generalize hv1 : a.eval x1 = v1 at r1 ha0
              cases r1 with
              | ar _ _ _ _ cap gh hg hn =>
                cases n with
                | zero =>
                  simp only [List.replicate_zero, List.flatten_nil, splice, sset_same h2]
                  refine opOk_value (run w ?_) ⟨hs, Ext.refl _ _ _ _⟩ rel
                  simp only [Builtin.clear_, hat, ha0, Sem.run_bind, run_underlying hu, Result.andThen]
                  rfl
                | succ n =>
                  have hk : z.length = k := hzk
                  have hk0 : 0 < k ∨ k = 0 := by omega
                  obtain ⟨hok2, hone2⟩ : CellsOk dp F G w (Builtin.zeroCells v.cells (n + 1)) (List.replicate (n + 1) z).flatten ∧ ∀ u ∈ (Builtin.zeroCells v.cells (n + 1)).toList, u.oneCell' = true := by
                    rcases hk0 with hk0 | hk0
                    · exact zero_row hok hone hk hk0
                    · have hz0 : z = [] := List.eq_nil_of_length_eq_zero (by omega)
                      have hv0 : v.cells.size = 0 := by rw [hok.1, hz0]; rfl
                      have : Builtin.zeroCells v.cells (n + 1) = #[] := by simp [Builtin.zeroCells, hv0, Array.range_zero']
                      rw [this, hz0]
                      exact ⟨⟨by simp, fun j v d h => by simp at h⟩, by simp⟩
                  have hlen : (List.replicate (n + 1) z).flatten.length = (n + 1) * k := by simp [hk]
                  obtain ⟨w', hw, hsim⟩ := hs.writeBox (P := P) (o := p) (vs := (Builtin.zeroCells v.cells (n + 1)).toList) h2 hg (by simpa using hok2.1) (fun j v d hv hd => hok2.2 j v d (by simpa using hv) hd) hone2 (by omega)
                  refine opOk_value (run w' ?_) hsim rel
                  simp only [Builtin.clear_, hat, ha0, Sem.run_bind, run_underlying hu, Result.andThen, zeroValue, typeInfo, run_program, hi, hv, Sem.run_pure, hw]
            · rw [h1] at r1
              generalize hv1 : a.eval x1 = v1 at r1 ha0
              refine opOk_value (run w ?_) ⟨hs, Ext.refl _ _ _ _⟩ rel
              cases r1 <;> simp only [Builtin.clear_, hat, ha0, Sem.run_bind, run_underlying hu, Result.andThen] <;> rfl
        · cases ht
      · cases ht
    · cases hb
  · cases hm

end

end Go.Proofs.YtjniafcnjbbomaaGreatDoor.DE

namespace Go.Proofs.YtjniafcnjbbomaaGreatDoor.DE
open Go

section
variable {P : Program} {dp : Nat → Option Fn} {F F' : Fix} {G G' : List Gh} {w w' : World} {S S' : Store} {a : Act} {fr : List D} {o : Oper} {d : D}

theorem same1 {k : SK} {x y : D} {u v : Value} (n : Nat) (h : keq (.one k) x y = some true) (hu : Rel dp F G w u x) (hv : Rel dp F G w v y) : Instr.sameBits n u v = true := by
  simp only [keq] at h
  split at h
  · rename_i hc
    simp only [Bool.and_eq_true] at hc
    cases hu <;> simp only [seq1] at h <;> try (cases h; done)
    · cases hv <;> simp only at h <;> try (cases h; done)
      simpa [Instr.sameBits] using h
    · cases hv <;> simp only at h <;> try (cases h; done)
      split at h
      · rename_i hk; subst hk
        simpa [Instr.sameBits] using h
      · cases h
    · cases hv <;> simp only at h <;> try (cases h; done)
      injection h with h
      simp only [beq_iff_eq] at h
      subst h
      simp [Instr.sameBits, beq_toListBytes]
  · cases h

theorem seqL_get : ∀ {ks : List SK} {xs ys : List D}, seqL ks xs ys = some true → ∀ (j : Nat) (x y : D), xs[j]? = some x → ys[j]? = some y → ∃ k, keq (.one k) x y = some true
  | [], [], [], _, _, _, _, h, _ => by simp at h
  | [], _ :: _, _, h, _, _, _, _, _ => by simp [seqL] at h
  | [], [], _ :: _, h, _, _, _, _, _ => by simp [seqL] at h
  | _ :: _, [], _, h, _, _, _, _, _ => by simp [seqL] at h
  | _ :: _, _ :: _, [], h, _, _, _, _, _ => by simp [seqL] at h
  | k :: ks, x :: l, y :: m, h, j, x', y', hx, hy => by
    simp only [seqL] at h
    split at h
    · rename_i hc
      split at h
      · rename_i p q h1 h2
        injection h with h
        simp only [Bool.and_eq_true] at h
        obtain ⟨rfl, rfl⟩ := h
        match j with
        | 0 =>
          simp at hx hy
          subst hx hy
          exact ⟨k, by simp only [keq]; rw [if_pos hc]; exact h1⟩
        | j + 1 => exact seqL_get h2 j x' y' (by simpa using hx) (by simpa using hy)
      · cases h
    · cases h

theorem same_key {kk : KK} {x y : D} {u v : Value} (h : keq kk x y = some true) (hu : Rel dp F G w u x) (hv : Rel dp F G w v y) : Instr.sameBits 10000 u v = true := by
  cases kk with
  | one k => exact same1 _ h hu hv
  | agg ks =>
    cases x <;> simp only [keq] at h <;> try (cases h; done)
    cases y <;> simp only at h <;> try (cases h; done)
    rename_i xs ys
    obtain ⟨us, rfl⟩ := rel_agg hu
    obtain ⟨vs, rfl⟩ := rel_agg hv
    cases hu with
    | agg _ _ hl1 h1 =>
      cases hv with
      | agg _ _ hl2 h2 =>
        obtain ⟨l1, l2⟩ := seqL_length h
        show Instr.sameBits (9999 + 1) (.agg us) (.agg vs) = true
        simp only [Instr.sameBits, Bool.and_eq_true, beq_iff_eq, List.all_eq_true]
        refine ⟨by omega, ?_⟩
        rintro ⟨p, q⟩ hpq
        obtain ⟨j, hj, hz⟩ := List.getElem_of_mem hpq
        simp only [List.length_zip, Array.length_toList] at hj
        have hz' := hz
        simp only [List.getElem_zip, Prod.mk.injEq, Array.getElem_toList] at hz'
        have hx : j < xs.length := by omega
        have hy : j < ys.length := by omega
        obtain ⟨k, hk⟩ := seqL_get h j xs[j] ys[j] (List.getElem?_eq_getElem hx) (List.getElem?_eq_getElem hy)
        refine same1 (dp := dp) (F := F) (G := G) (w := w) 9999 hk (h1 j p _ ?_ (List.getElem?_eq_getElem hx)) (h2 j q _ ?_ (List.getElem?_eq_getElem hy))
        · rw [Array.getElem?_eq_getElem (by omega), hz'.1]
        · rw [Array.getElem?_eq_getElem (by omega), hz'.2]

theorem keq_symm {kk : KK} {x y : D} (h : keq kk x y = some true) : keq kk y x = some true := by
  have s1 : ∀ {x y : D}, seq1 x y = some true → seq1 y x = some true := by
    intro x y h
    unfold seq1 at h
    split at h
    · injection h with h; simp only [beq_iff_eq] at h; subst h; simp [seq1]
    · split at h
      · rename_i hk; subst hk
        injection h with h; simp only [beq_iff_eq] at h; subst h; simp [seq1]
      · cases h
    · injection h with h; simp only [beq_iff_eq] at h; subst h; simp [seq1]
    · cases h
  cases kk with
  | one k =>
    simp only [keq] at h ⊢
    split at h
    · rename_i hc
      rw [if_pos (by simpa [and_comm] using hc)]
      exact s1 h
    · cases h
  | agg ks =>
    cases x <;> simp only [keq] at h <;> try (cases h; done)
    cases y <;> simp only at h <;> try (cases h; done)
    rename_i xs ys
    simp only [keq]
    induction ks generalizing xs ys with
    | nil =>
      cases xs <;> cases ys <;> simp_all [seqL]
    | cons k ks ih =>
      cases xs with
      | nil => simp [seqL] at h
      | cons x xs =>
        cases ys with
        | nil => simp [seqL] at h
        | cons y ys =>
          simp only [seqL] at h ⊢
          split at h
          · rename_i hc
            rw [if_pos (by simpa [and_comm] using hc)]
            split at h
            · rename_i p q h1 h2
              injection h with h
              simp only [Bool.and_eq_true] at h
              obtain ⟨rfl, rfl⟩ := h
              rw [s1 h1, ih xs ys h2]
              rfl
            · cases h
          · cases h

theorem run_stays {kk : KK} {x y : D} {u v : Value} (h : keq kk x y = some true) (hu : Rel dp F G w u x) (hv : Rel dp F G w v y) : (Instr.keyThatStays v u).run P w = .ok u w := by
  simp only [Instr.keyThatStays, same_key (keq_symm h) hv hu, if_true, Sem.run_pure]

theorem run_setMap {r : Nat} {es : Array MapEntry} {c : Nat} (x : Obj) (h : w.heap[r]? = some (.map es c)) : (setObj r x).run P w = .ok () { w with heap := w.heap.setIfInBounds r x } := by
  simp only [setObj, Sem.run, h]

theorem wrote_obj {r : Nat} {x y : Obj} (h : w.heap[r]? = some y) : Wrote w r x { w with heap := w.heap.setIfInBounds r x } := by
  have hlt := heap_lt h
  exact ⟨by simp [hlt], fun k hk => by simp [Array.getElem?_setIfInBounds_ne (Ne.symm hk)], by simp, rfl, rfl, rfl⟩

/-- Writing into a map. -/
theorem Sim.writeMap (hs : Sim dp F G w S) {id : Nat} {g : Gh} {es es' : List (D × D)} {ents' : Array MapEntry} (he : sget S id = some (.map es)) (hg : sget G id = some g) (hsz : ents'.size = es'.length)
    (hp : ∀ (j : Nat) (e : MapEntry) (d : D × D), ents'[j]? = some e → es'[j]? = some d → e.born = j ∧ Rel dp F G w e.key d.1 ∧ Rel dp F G w e.val d.2) :
    ∃ w', (setObj g.blk (.map ents' es'.length)).run P w = .ok () w' ∧ (Sim dp F G w' (sset S id (.map es')) ∧ Ext F G w S F G w' (sset S id (.map es'))) ∧
      (∀ v d, Rel dp F G w v d → Rel dp F G w' v d) := by
  obtain ⟨ents, e1, e2, e3⟩ := hs.ent id _ g he hg
  have hno : ∀ o, ¬ F g.blk o := by
    intro o h
    obtain ⟨v, hv⟩ := hs.fcell _ _ h
    simp [World.cell?, e1] at hv
  have hw := wrote_obj (w := w) (x := .map ents' es'.length) e1
  have hm : ∀ v d, Rel dp F G w v d → Rel dp F G { w with heap := w.heap.setIfInBounds g.blk (.map ents' es'.length) } v d := by
    intro v d h
    refine h.mono (fun _ _ h => h) (fun _ _ h => h) fun b o h => ?_
    exact World.cell?_of_block (a := ⟨b, o, none⟩) (hw.other b fun heq => hno o (heq ▸ h))
  refine ⟨_, run_setMap _ e1, hs.write he hg trivial hw (fun o h => (hno o h).elim) (fun _ _ h => h) (fun _ _ h => .inl h)
    ⟨ents', hw.at_, hsz, fun j e d h1 h2 => ?_⟩, hm⟩
  obtain ⟨a1, a2, a3⟩ := hp j e d h1 h2
  exact ⟨a1, hm _ _ a2, hm _ _ a3⟩

theorem posD_spec {kk : KK} {key : D} : ∀ {es : List (D × D)} {j : Nat} {p : Nat}, posD kk key es j = some (some p) → ∃ k v, es[p - j]? = some (k, v) ∧ j ≤ p ∧ keq kk key k = some true
  | [], _, _, h => by simp [posD] at h
  | (k, v) :: es, j, p, h => by
    simp only [posD] at h
    split at h
    · rename_i hk
      injection h with h; injection h with h; subst h
      exact ⟨k, v, by simp, Nat.le_refl _, hk⟩
    · obtain ⟨k', v', h1, h2, h3⟩ := posD_spec h
      refine ⟨k', v', ?_, by omega, h3⟩
      rw [show p - j = (p - (j + 1)) + 1 by omega]
      exact h1
    · cases h

theorem muD_pos {kk : KK} {key v : D} : ∀ {es es' : List (D × D)} (j : Nat), muD kk key v es = some es' → ∃ p, posD kk key es j = some p ∧
    ((p = none ∧ es' = es ++ [(key, v)]) ∨ ∃ q, p = some (j + q) ∧ q < es.length ∧ es' = es.set q (key, v))
  | [], es', j, h => by
    simp only [muD] at h
    injection h with h
    exact ⟨none, rfl, .inl ⟨rfl, h.symm⟩⟩
  | (k, u) :: es, es', j, h => by
    simp only [muD] at h
    split at h
    · rename_i hk
      injection h with h
      exact ⟨some j, by simp [posD, hk], .inr ⟨0, rfl, by simp, h.symm⟩⟩
    · rename_i hk
      cases hr : muD kk key v es with
      | none => simp [hr] at h
      | some r =>
        simp only [hr, Option.map_some, Option.some.injEq] at h
        subst h
        obtain ⟨p, hp, hh⟩ := muD_pos (j + 1) hr
        refine ⟨p, by simp [posD, hk, hp], ?_⟩
        rcases hh with ⟨h1, h2⟩ | ⟨q, h1, h2, h3⟩
        · exact .inl ⟨h1, by rw [h2]; rfl⟩
        · exact .inr ⟨q + 1, by rw [h1]; congr 1; omega, by simp; omega, by rw [h3]; rfl⟩
    · cases h

theorem putD_set {key : D} : ∀ {j : Nat} {es : List (D × D)} {e : D × D}, es[j]? = some e → putD key j es = es.set j (key, e.2)
  | _, [], _, h => by simp at h
  | 0, (k, v) :: es, e, h => by simp at h; subst h; rfl
  | j + 1, x :: es, e, h => by simp only [putD, List.set_cons_succ]; rw [putD_set (by simpa using h)]

theorem valD_set {v : D} : ∀ {j : Nat} {es : List (D × D)} {e : D × D}, es[j]? = some e → valD v j es = es.set j (e.1, v)
  | _, [], _, h => by simp at h
  | 0, (k, u) :: es, e, h => by simp at h; subst h; rfl
  | j + 1, x :: es, e, h => by simp only [valD, List.set_cons_succ]; rw [valD_set (by simpa using h)]

def EntsOk (dp : Nat → Option Fn) (F : Fix) (G : List Gh) (w : World) (ents : Array MapEntry) (es : List (D × D)) : Prop :=
  ents.size = es.length ∧ ∀ (j : Nat) (e : MapEntry) (d : D × D), ents[j]? = some e → es[j]? = some d → e.born = j ∧ Rel dp F G w e.key d.1 ∧ Rel dp F G w e.val d.2

theorem EntsOk.push {ents : Array MapEntry} {es : List (D × D)} {k v : Value} {x y : D} (h : EntsOk dp F G w ents es) (hk : Rel dp F G w k x) (hv : Rel dp F G w v y) :
    EntsOk dp F G w (ents.push { key := k, val := v, born := es.length }) (es ++ [(x, y)]) := by
  refine ⟨by simp [h.1], fun j e d he hd => ?_⟩
  rw [Array.getElem?_push] at he
  by_cases hj : j = es.length
  · subst hj
    rw [if_pos h.1.symm] at he
    injection he with he; subst he
    simp at hd; subst hd
    exact ⟨rfl, hk, hv⟩
  · rw [h.1, if_neg hj] at he
    have hlt : j < es.length := by rw [← h.1]; exact (Array.getElem?_eq_some_iff.1 he).1
    rw [List.getElem?_append_left hlt] at hd
    exact h.2 j e d he hd

theorem EntsOk.modify {ents : Array MapEntry} {es : List (D × D)} {f : MapEntry → MapEntry} {q : Nat} {y : D × D} (h : EntsOk dp F G w ents es) (hq : q < es.length)
    (hf : ∀ e, ents[q]? = some e → (f e).born = e.born ∧ Rel dp F G w (f e).key y.1 ∧ Rel dp F G w (f e).val y.2) : EntsOk dp F G w (ents.modify q f) (es.set q y) := by
  refine ⟨by simp [h.1], fun j e d he hd => ?_⟩
  rw [Array.getElem?_modify] at he
  rw [List.getElem?_set] at hd
  by_cases hj : q = j
  · subst hj
    have hlt : q < ents.size := by rw [h.1]; exact hq
    have hq' := h.2 q ents[q] es[q] (Array.getElem?_eq_getElem hlt) (List.getElem?_eq_getElem hq)
    simp [hlt] at he
    simp [hq] at hd
    subst he hd
    obtain ⟨a1, a2, a3⟩ := hf ents[q] (Array.getElem?_eq_getElem hlt)
    exact ⟨by rw [a1]; exact hq'.1, a2, a3⟩
  · rw [if_neg hj] at he hd
    exact h.2 j e d he hd

theorem EntsOk.get {ents : Array MapEntry} {es : List (D × D)} (h : EntsOk dp F G w ents es) {q : Nat} {e : D × D} (hq : es[q]? = some e) : ∃ en, ents[q]? = some en ∧ en.born = q ∧ Rel dp F G w en.key e.1 ∧ Rel dp F G w en.val e.2 := by
  have hlt : q < ents.size := by rw [h.1]; exact (List.getElem?_eq_some_iff.1 hq).1
  exact ⟨ents[q], Array.getElem?_eq_getElem hlt, h.2 q _ e (Array.getElem?_eq_getElem hlt) hq⟩

theorem map_ok {id : Nat} {g : Gh} {es : List (D × D)} (hs : Sim dp F G w S) (hsg : sget S id = some (.map es)) (hg : sget G id = some g) :
    ∃ ents : Array MapEntry, w.heap[g.blk]? = some (.map ents es.length) ∧ EntsOk dp F G w ents es ∧ EsOk dp F G w ents.toList es := by
  obtain ⟨ents, h1, h2, h3⟩ := hs.ent id _ g hsg hg
  exact ⟨ents, h1, ⟨h2, h3⟩, ⟨by simpa using h2, fun j e d he hd => (h3 j e d (by simpa using he) hd).2⟩⟩

theorem hit_at {ents : Array MapEntry} {p : Nat} {e : MapEntry} (h : ents[p]? = some e) : hit ents.toList 0 (some p) = some (p, e.val) := by
  simp [hit, h]

theorem run_update {kk : KK} {t kt et : TypeId} {vk vv : Value} {kd vd : D} {id : Nat} {g : Gh} {es es' : List (D × D)} (hs : Sim dp F G w S) (hu : P.underlying t = some (.map kt et)) (hkt : mKey P kt kk = true)
    (hk : isKey kk kd = true) (r2 : Rel dp F G w vk kd) (r3 : Rel dp F G w vv vd) (hg : sget G id = some g) (hsg : sget S id = some (.map es)) (he : muD kk kd vd es = some es') :
    ∃ w', (Instr.mapUpdate t (.map (some g.blk)) vk vv).run P w = .ok () w' ∧ (Sim dp F G w' (sset S id (.map es')) ∧ Ext F G w S F G w' (sset S id (.map es'))) := by
  obtain ⟨ents, h1, h2, h3⟩ := map_ok hs hsg hg
  obtain ⟨p, hp, hh⟩ := muD_pos 0 he
  have hfk := run_find (P := P) (t := kt) hkt r2 hk h3 hp
  have hck := fun b => run_checkKey (P := P) (w := w) b 9998 hkt hk r2
  rcases hh with ⟨rfl, rfl⟩ | ⟨q, rfl, hq, rfl⟩
  · obtain ⟨w', a1, a2, _⟩ := hs.writeMap (P := P) hsg hg (h2.push r2 r3).1 (h2.push r2 r3).2
    refine ⟨w', ?_, a2⟩
    simp only [List.length_append, List.length_singleton] at a1
    simp only [Instr.mapUpdate, Sem.run_bind, run_underlying hu, Result.andThen, run_getObj h1, hck, hfk, hit, a1]
  · obtain ⟨kx, vx, b1, _, b3⟩ := posD_spec hp
    simp only [Nat.zero_add, Nat.sub_zero] at b1 hp hfk
    obtain ⟨en, c1, c2, c3, c4⟩ := h2.get b1
    have hst := run_stays (P := P) b3 r2 c3
    have hmod : EntsOk dp F G w (ents.modify q fun e => { e with key := vk, val := vv }) (es.set q (kd, vd)) := h2.modify hq fun e _ => ⟨rfl, r2, r3⟩
    obtain ⟨w', a1, a2, _⟩ := hs.writeMap (P := P) hsg hg hmod.1 hmod.2
    refine ⟨w', ?_, a2⟩
    rw [List.length_set] at a1
    rw [hit_at c1] at hfk
    simp only [Instr.mapUpdate, Sem.run_bind, run_underlying hu, Result.andThen, run_getObj h1, hck, hfk, c1, Option.map_some, Option.getD_some, hst, a1]

theorem ok_mu {kk : KK} {m key v : A} {id : Nat} {es es' : List (D × D)} (hm : mR P dp o.op (.mu kk m key v) = true) (hs : Sim dp F G w S) (hf : Fr dp F G w a fr) (hk : isKey kk (av fr key) = true)
    (h1 : av fr m = .mp id) (h2 : sget S id = some (.map es)) (h3 : muD kk (av fr key) (av fr v) es = some es') : OpOk P dp F G w S a o (.tup []) (sset S id (.map es')) := by
  have fin : ∀ (t : TypeId) (x i u : Operand), (match P.underlying t with | some (.map kt _) => mKey P kt kk | _ => false) = true → mA dp x m = true → mA dp i key = true → mA dp u v = true →
      ∃ w', (Instr.mapUpdate t (a.eval x) (a.eval i) (a.eval u)).run P w = .ok () w' ∧ (Sim dp F G w' (sset S id (.map es')) ∧ Ext F G w S F G w' (sset S id (.map es'))) := by
    intro t x i u ht hx hi hu
    split at ht
    · rename_i kt et hut
      have r1 := hf.eval hx
      rw [h1] at r1
      generalize hv1 : a.eval x = v1 at r1
      cases r1 with
      | mp _ g hg => exact run_update hs hut ht hk (hf.eval hi) (hf.eval hu) hg h2 h3
    · cases ht
  simp only [mR] at hm
  split at hm
  · rename_i t x i u ho
    simp only [Bool.and_eq_true] at hm
    obtain ⟨w', a1, a2⟩ := fin t x i u hm.1.1.1 hm.1.1.2 hm.1.2 hm.2
    refine opOk_skip ?_ a2
    simp only [execOp, ho, Sem.run_bind, a1, Result.andThen, Sem.run_pure]
  · rename_i t x i u ho
    simp only [Bool.and_eq_true] at hm
    obtain ⟨w', a1, a2⟩ := fin t x i u hm.1.1.1 hm.1.1.2 hm.1.2 hm.2
    refine opOk_skip ?_ a2
    simp only [execOp, ho, Sem.run_bind, a1, Result.andThen, Sem.run_pure]
  · cases hm

/-- What asking a map for an entry to write into gives. -/
def mentRes (z key : D) (es : List (D × D)) (id : Nat) (S : Store) : Option Nat → Option (D × Store)
  | some j => match es[j]? with
    | some e => some (.tup [e.2, .i .i64 j], sset S id (.map (putD key j es)))
    | none => none
  | none => some (.tup [z, .i .i64 es.length], sset S id (.map (es ++ [(key, z)])))

theorem ok_ment {kk : KK} {z : D} {m key : A} {id : Nat} {es : List (D × D)} {p : Option Nat} {r : D × Store} (hm : mR P dp o.op (.ment kk z m key) = true) (hs : Sim dp F G w S) (hf : Fr dp F G w a fr) (hk : isKey kk (av fr key) = true)
    (h1 : av fr m = .mp id) (h2 : sget S id = some (.map es)) (h3 : posD kk (av fr key) es 0 = some p) (h4 : mentRes z (av fr key) es id S p = some r) : OpOk P dp F G w S a o r.1 r.2 := by
  simp only [mR] at hm
  split at hm
  · rename_i t x i ho
    simp only [Bool.and_eq_true] at hm
    obtain ⟨⟨ht, hx⟩, hi⟩ := hm
    split at ht
    · rename_i kt et hu
      simp only [Bool.and_eq_true] at ht
      obtain ⟨hkt, hz⟩ := ht
      have r1 := hf.eval hx
      have r2 := hf.eval hi
      rw [h1] at r1
      generalize hv1 : a.eval x = v1 at r1
      generalize hv2 : a.eval i = v2 at r2
      cases r1 with
      | mp _ g hg =>
        obtain ⟨zv, hzr, hzrel⟩ := run_zero1 (P := P) (dp := dp) (F := F) (G := G) (w := w) hz
        obtain ⟨ents, e1, e2, e3⟩ := map_ok hs h2 hg
        have hfk := run_find (P := P) (t := kt) hkt r2 hk e3 h3
        have hck := fun b => run_checkKey (P := P) (w := w) b 9998 hkt hk r2
        cases p with
        | none =>
          simp only [mentRes] at h4
          injection h4 with h4; subst h4
          obtain ⟨w', a1, a2, a3⟩ := hs.writeMap (P := P) h2 hg (e2.push r2 hzrel).1 (e2.push r2 hzrel).2
          simp only [List.length_append, List.length_singleton] at a1
          refine opOk_value (v := .tuple #[zv, goInt es.length]) (w' := w') ?_ a2 (a3 _ _ (rel_two hzrel (.i _ _)))
          simp only [execOp, ho, hv1, hv2, Instr.mapEntry, Sem.run_bind, run_underlying hu, Result.andThen, run_getObj e1, hck, hfk, hit, hzr, a1, Sem.run_pure]
        | some j =>
          simp only [mentRes] at h4
          split at h4
          · rename_i e hej
            injection h4 with h4; subst h4
            obtain ⟨kx, vx, b1, _, b3⟩ := posD_spec h3
            simp only [Nat.sub_zero] at b1
            rw [hej] at b1
            injection b1 with b1
            obtain ⟨en, c1, c2, c3, c4⟩ := e2.get hej
            rw [b1] at c3
            have hst := run_stays (P := P) b3 r2 c3
            have hlt := (List.getElem?_eq_some_iff.1 hej).1
            have hmod : EntsOk dp F G w (ents.modify j fun e => { e with key := v2 }) (putD (av fr key) j es) := by
              rw [putD_set hej]
              refine e2.modify hlt fun e' he' => ⟨rfl, r2, ?_⟩
              rw [c1] at he'; injection he' with he'; subst he'
              exact c4
            obtain ⟨w', a1, a2, a3⟩ := hs.writeMap (P := P) h2 hg hmod.1 hmod.2
            rw [putD_set hej, List.length_set] at a1
            rw [hit_at c1] at hfk
            refine opOk_value (v := .tuple #[en.val, goInt en.born]) (w' := w') ?_ a2 (a3 _ _ (rel_two c4 (by rw [c2]; exact .i _ _)))
            simp only [execOp, ho, hv1, hv2, Instr.mapEntry, Sem.run_bind, run_underlying hu, Result.andThen, run_getObj e1, hck, hfk, c1, Option.map_some, Option.getD_some, hst, a1, Sem.run_pure]
          · cases h4
    · cases ht
  · cases hm

theorem ok_est {m j v : A} {id : Nat} {kk : IntKind} {n : Int} {es : List (D × D)} (hm : mR P dp o.op (.est m j v) = true) (hs : Sim dp F G w S) (hf : Fr dp F G w a fr)
    (h1 : av fr m = .mp id) (h2 : av fr j = .i kk n) (h3 : sget S id = some (.map es)) (h4 : 0 ≤ n) (h5 : n < es.length) : OpOk P dp F G w S a o (.tup []) (sset S id (.map (valD (av fr v) n.toNat es))) := by
  simp only [mR] at hm
  split at hm
  · rename_i t x i u ho
    simp only [Bool.and_eq_true] at hm
    obtain ⟨⟨hx, hi⟩, hu⟩ := hm
    have r1 := hf.eval hx
    have r2 := hf.eval hi
    have r3 := hf.eval hu
    rw [h1] at r1
    rw [h2] at r2
    generalize hv1 : a.eval x = v1 at r1
    generalize hv2 : a.eval i = v2 at r2
    generalize hv3 : a.eval u = v3 at r3
    cases r1 with
    | mp _ g hg =>
      cases r2
      obtain ⟨ents, e1, e2, e3⟩ := map_ok hs h3 hg
      have hlt : n.toNat < es.length := by omega
      have hej := List.getElem?_eq_getElem hlt
      obtain ⟨en, c1, c2, c3, c4⟩ := e2.get hej
      have hmod : EntsOk dp F G w (ents.modify n.toNat fun e => { e with val := v3 }) (valD (av fr v) n.toNat es) := by
        rw [valD_set hej]
        refine e2.modify hlt fun e' he' => ⟨rfl, ?_, r3⟩
        rw [c1] at he'; injection he' with he'; subst he'
        exact c3
      obtain ⟨w', a1, a2, a3⟩ := hs.writeMap (P := P) h3 hg hmod.1 hmod.2
      rw [valD_set hej, List.length_set] at a1
      have hlt' : n.toNat < ents.size := by rw [e2.1]; exact hlt
      have hidx : ents.findIdx? (fun e => (e.born : Int) == n) = some n.toNat := by
        rw [Array.findIdx?_eq_some_iff_getElem]
        have hb : ∀ (q : Nat) (hq : q < ents.size), ents[q].born = q := fun q hq =>
          (e2.2 q ents[q] (es[q]'(by rw [← e2.1]; exact hq)) (Array.getElem?_eq_getElem hq) (List.getElem?_eq_getElem (by rw [← e2.1]; exact hq))).1
        refine ⟨hlt', ?_, fun q hq => ?_⟩
        · rw [hb]; simp; omega
        · rw [hb]; simp; omega
      refine opOk_skip (w' := w') ?_ a2
      simp only [execOp, ho, hv1, hv2, hv3, Instr.entryStore, Sem.run_bind, Result.andThen, run_getObj e1, asInt, asIntOf, Sem.run_pure, Sem.run_map, hidx, a1]
  · cases hm

/-! ## Freezing -/

theorem Fr.reput {a : Act} {fr : List D} (h : Fr dp F G w a fr) (t : Nat) {d : D} (hv : Rel dp F G w (a.tmps.getD t undef) d) : Fr dp F G w a (fset fr t d) := by
  refine ⟨by simp [fset_length, h.len], fun u => ?_⟩
  rw [fget_fset]
  split
  · rename_i hu
    rw [hu.1]; exact hv
  · exact h.rel u

theorem chunks_get {k : Nat} : ∀ {n : Nat} {cs : List D}, n * k ≤ cs.length → (chunks k n cs).length = n ∧ (∀ x ∈ chunks k n cs, x.length = k) ∧
    ∀ (j : Nat) (x : List D) (m : Nat) (d : D), (chunks k n cs)[j]? = some x → x[m]? = some d → j < n ∧ m < k ∧ cs[j * k + m]? = some d
  | 0, cs, _ => ⟨rfl, by simp [chunks], fun j x m d h => by simp [chunks] at h⟩
  | n + 1, cs, h => by
    rw [Nat.add_mul, Nat.one_mul] at h
    obtain ⟨h1, h2, h3⟩ := chunks_get (k := k) (n := n) (cs := cs.drop k) (by simp; omega)
    have hl : (cs.take k).length = k := by simp; omega
    refine ⟨by simp [chunks, h1], fun x hx => ?_, fun j x m d hx hd => ?_⟩
    · simp only [chunks, List.mem_cons] at hx
      rcases hx with rfl | hx
      · exact hl
      · exact h2 x hx
    · simp only [chunks] at hx
      cases j with
      | zero =>
        simp at hx; subst hx
        have hm := (List.getElem?_eq_some_iff.1 hd).1
        rw [hl] at hm
        rw [List.getElem?_take_of_lt hm] at hd
        exact ⟨by omega, hm, by simpa using hd⟩
      | succ j =>
        obtain ⟨a1, a2, a3⟩ := h3 j x m d (by simpa using hx) hd
        refine ⟨by omega, a2, ?_⟩
        rw [List.getElem?_drop] at a3
        rw [Nat.add_mul, Nat.one_mul, show j * k + k + m = k + (j * k + m) by omega]
        exact a3

theorem ok_fz {t : Nat} {r : D × Store} (hs : Sim dp F G w S) (hf : Fr dp F G w a fr) (h : fzD (fget fr t) S = some r) :
    ∃ F', Sim dp F' G w r.2 ∧ Ext F G w S F' G w r.2 ∧ Fr dp F' G w a (fset fr t r.1) := by
  have r1 := hf.rel t
  unfold fzD at h
  split at h
  · rename_i k id o n heq
    rw [heq] at r1
    split at h
    · rename_i cs hsg
      split at h
      · rename_i hle
        injection h with h; subst h
        generalize hv : a.tmps.getD t undef = v at r1
        cases r1 with
        | ar _ _ _ _ cap g hg hn =>
          obtain ⟨vs, T, e1, ⟨e2, _⟩, e3, e4, e5⟩ := hs.ent id _ g hsg hg
          have hn := hn.1
          obtain ⟨c1, c2, c3⟩ := chunks_get (k := k) (n := n) (cs := cs.drop o) (by simp; omega)
          have hsim := hs.write (F' := fun b p => F b p ∨ (b = g.blk ∧ o ≤ p ∧ p < o + n * k)) (e' := .gone) hsg hg trivial (x := .cells vs T (0, 0)) ⟨e1, fun _ _ => rfl, rfl, rfl, rfl, rfl⟩ (fun _ _ => rfl) (fun _ _ h => .inl h) (fun b p h => by
            rcases h with h | ⟨rfl, h1, h2⟩
            · exact .inl h
            · have : p < vs.size := by omega
              exact .inr ⟨rfl, vs[p], by rw [cell_box e1]; exact Array.getElem?_eq_getElem this⟩) trivial
          refine ⟨_, hsim.1, hsim.2, (hf.ext hsim.2).reput t ?_⟩
          rw [hv]
          have := Rel.sl (dp := dp) (F := fun b p => F b p ∨ (b = g.blk ∧ o ≤ p ∧ p < o + n * k)) (G := G) (w := w) k (chunks k n (cs.drop o)) .ro g.blk o cap (fun j m => vs.getD (o + j * k + m) undef) c2 (by omega) (fun j x m d hx hd => by
              obtain ⟨b1, b2, b3⟩ := c3 j x m d hx hd
              have hlt := lt_mul b1 b2
              have hvs : o + j * k + m < vs.size := by omega
              have hg' : vs.getD (o + j * k + m) undef = vs[o + j * k + m] := by simp [Array.getD, hvs]
              rw [hg']
              exact ⟨.inr ⟨rfl, by omega, by omega⟩, by rw [cell_box e1]; exact Array.getElem?_eq_getElem hvs, e4 _ (by simp)⟩) (fun j x m d hx hd => by
              obtain ⟨b1, b2, b3⟩ := c3 j x m d hx hd
              have hlt := lt_mul b1 b2
              have hvs : o + j * k + m < vs.size := by omega
              have hg' : vs.getD (o + j * k + m) undef = vs[o + j * k + m] := by simp [Array.getD, hvs]
              rw [hg']
              rw [List.getElem?_drop, ← Nat.add_assoc] at b3
              exact (e5 _ _ d (Array.getElem?_eq_getElem hvs) b3).ext hsim.2) trivial
          rw [c1] at this
          exact this
      · cases h
    · cases h
  · rename_i k nl xs ow heq
    injection h with h; subst h
    exact ⟨F, hs, Ext.refl _ _ _ _, hf.reput t (by have := r1.strip; rw [heq] at this; exact this)⟩
  · cases h

end

end Go.Proofs.YtjniafcnjbbomaaGreatDoor.DE

namespace Go.Proofs.YtjniafcnjbbomaaGreatDoor.DE
open Go

section
variable {P : Program} {dp : Nat → Option Fn} {F F' : Fix} {G G' : List Gh} {w w' : World} {S S' : Store} {a : Act} {fr : List D} {o : Oper} {d : D}

/-! ## Strings -/

theorem bget (l : List UInt8) (i : Nat) : (⟨l.toArray⟩ : ByteArray)[i]! = l[i]! := by
  have hs : (⟨l.toArray⟩ : ByteArray).size = l.length := by show l.toArray.size = _; simp
  by_cases h : i < l.length
  · rw [getElem!_pos (⟨l.toArray⟩ : ByteArray) i (by rw [hs]; exact h), getElem!_pos l i h]
    rfl
  · rw [getElem!_neg (⟨l.toArray⟩ : ByteArray) i (by rw [hs]; exact h), getElem!_neg l i h]

/-- The comparison, on lists. -/
def cmpL : List UInt8 → List UInt8 → Int
  | [], [] => 0
  | [], _ :: _ => -1
  | _ :: _, [] => 1
  | x :: a, y :: b => if x == y then cmpL a b else if x < y then -1 else 1

theorem cmpL_find : ∀ (a b : List UInt8), (match (List.range (min a.length b.length)).find? fun i => a[i]! != b[i]! with
    | some i => if a[i]! < b[i]! then (-1 : Int) else 1
    | none => if a.length < b.length then -1 else if a.length > b.length then 1 else 0) = cmpL a b
  | [], [] => rfl
  | [], _ :: _ => by simp [cmpL]
  | _ :: _, [] => by simp [cmpL]
  | x :: a, y :: b => by
    have ih := cmpL_find a b
    have e : min (x :: a).length (y :: b).length = min a.length b.length + 1 := by simp only [List.length_cons]; omega
    rw [e, List.range_succ_eq_map, List.find?_cons]
    simp only [cmpL]
    by_cases hxy : x = y
    · subst hxy
      simp only [List.getElem!_cons_zero, bne_self_eq_false, beq_self_eq_true, if_true, List.find?_map]
      rw [← ih]
      have e2 : ((fun i => (x :: a)[i]! != (x :: b)[i]!) ∘ Nat.succ) = fun i => a[i]! != b[i]! := by
        funext i
        simp
      rw [e2]
      cases (List.range (min a.length b.length)).find? fun i => a[i]! != b[i]! with
      | none => simp
      | some i => simp
    · have h1 : (x != y) = true := by simpa using hxy
      have h2 : (x == y) = false := by simpa using hxy
      simp only [List.getElem!_cons_zero, h1, h2, Bool.false_eq_true, if_false]

theorem cmpL_less : ∀ (a b : List UInt8), cmpL a b = (if Op.bytesLess a b then -1 else if a == b then 0 else 1 : Int)
  | [], [] => rfl
  | [], _ :: _ => rfl
  | _ :: _, [] => by simp [cmpL, Op.bytesLess]
  | x :: a, y :: b => by
    simp only [cmpL, Op.bytesLess, cmpL_less a b]
    by_cases hxy : x = y
    · subst hxy
      have : ¬ (x < x) := UInt8.lt_irrefl x
      simp [this]
    · have h2 : (x == y) = false := by simpa using hxy
      by_cases hlt : x < y
      · simp [h2, hlt]
      · simp [h2, hlt, hxy]

theorem cmp_spec (a b : List UInt8) : Extern.BytealgCompare.cmp ⟨a.toArray⟩ ⟨b.toArray⟩ = (if Op.bytesLess a b then -1 else if a == b then 0 else 1 : Int) := by
  rw [← cmpL_less, ← cmpL_find]
  have ha : (⟨a.toArray⟩ : ByteArray).size = a.length := by show a.toArray.size = _; simp
  have hb : (⟨b.toArray⟩ : ByteArray).size = b.length := by show b.toArray.size = _; simp
  simp only [Extern.BytealgCompare.cmp, ha, hb, bget]
  rfl

theorem ok_cmps {x y : A} {l m : List UInt8} (hm : mR P dp o.op (.cmps x y) = true) (hf : Fr dp F G w a fr) (h1 : av fr x = .s l) (h2 : av fr y = .s m) :
    Pur P dp F G w a o (.i .i64 (if Op.bytesLess l m then -1 else if l == m then 0 else 1)) := by
  simp only [mR] at hm
  split at hm
  · rename_i c ho
    simp only [Bool.and_eq_true] at hm
    obtain ⟨hc, hargs⟩ := hm
    split at hc
    · rename_i f hcal
      split at hc
      · rename_i fn hfn
        simp only [Bool.and_eq_true, beq_iff_eq] at hc
        obtain ⟨⟨hname, hbody⟩, hnext'⟩ := hc
        obtain ⟨e1, e2, e3⟩ := hf.evals hargs
        have hl : c.args.toList.length = 2 := by rw [e1]; rfl
        match hx : c.args.toList, hl with
        | [x1, x2], _ =>
          rw [hx] at hargs
          simp only [mAs, Bool.and_eq_true] at hargs
          have r1 := hf.eval hargs.1
          have r2 := hf.eval hargs.2.1
          rw [h1] at r1; rw [h2] at r2
          generalize hv1 : a.eval x1 = v1 at r1
          generalize hv2 : a.eval x2 = v2 at r2
          cases r1; cases r2
          have hargs' : c.args.map a.eval = #[.string ⟨l.toArray⟩, .string ⟨m.toArray⟩] := by
            apply Array.ext'
            simp [hx, hv1, hv2]
          have hfind : Extern.find fn = some Extern.BytealgCompare.compare := by
            unfold Extern.find
            rw [hname]
            rfl
          have hnext : Extern.findNext fn = none := by simpa using hnext'
          refine ⟨goInt (Extern.BytealgCompare.cmp ⟨l.toArray⟩ ⟨m.toArray⟩), ?_, by rw [cmp_spec]; exact .i _ _⟩
          have hrun := run_callFunc_extern (P := P) hfn (by rw [hname]; rfl) hbody hnext hfind #[.string ⟨l.toArray⟩, .string ⟨m.toArray⟩] w
          have hcmp : (Extern.BytealgCompare.compare #[.string ⟨l.toArray⟩, .string ⟨m.toArray⟩]).run P w = .ok (goInt (Extern.BytealgCompare.cmp ⟨l.toArray⟩ ⟨m.toArray⟩)) w := rfl
          rw [hcmp] at hrun
          simp only [execOp, ho, resolve, hcal, Act.eval, Deferred.ofValue, Sem.run_bind, Sem.run_pure, Result.andThen, invoke, hargs', Array.append_empty, Array.empty_append, hrun]
      · cases hc
    · cases hc
  · cases hm

/-! ## Appending -/

/-- The cells of a slice that is read. -/
theorem rel_news {k k2 : Nat} {nl : Bool} {ys : List (List D)} {ow : Own} {v : Value} (h : Rel dp F G w v (.sl k2 nl ys ow)) (hk : k2 = k ∨ ys = []) (hk0 : 0 < k) :
    ∃ (news : List Value) (base : Option Addr) (cap : Nat), v = .slice base ys.length cap ∧ news.length = ys.length * k ∧ (∀ u ∈ news, u.oneCell' = true) ∧ RowOk dp F G w k news.toArray ys ∧
      ∀ w2 : World, (∀ b o, F b o → w2.cell? ⟨b, o, none⟩ = w.cell? ⟨b, o, none⟩) → (Builtin.firstCells k ys.length v).run P w2 = .ok news.toArray w2 := by
  cases h with
  | nil => exact ⟨[], none, 0, rfl, by simp, by simp, ⟨by simp, fun j x m d h => by simp at h⟩, fun w2 _ => by simp [Builtin.firstCells]⟩
  | emp _ ad cap => exact ⟨[], some ad, cap, rfl, by simp, by simp, ⟨by simp, fun j x m d h => by simp at h⟩, fun w2 _ => run_firstCells_some (P := P) w2 k 0 ad 0 cap [] (by simp) (by simp)⟩
  | sl _ _ _ blk off cap c hkl hcap h1 h2 ho =>
    by_cases hys : ys = []
    · subst hys
      refine ⟨[], some ⟨blk, off, none⟩, cap, rfl, by simp, by simp, ⟨by simp, fun j x m d h => by simp at h⟩, fun w2 _ => ?_⟩
      exact run_firstCells_some (P := P) w2 k 0 ⟨blk, off, none⟩ 0 cap [] (by simp) (by simp)
    · have hk2 : k2 = k := hk.resolve_right hys
      subst hk2
      have hmem : ∀ q, q < ys.length * k2 → q / k2 < ys.length ∧ q % k2 < k2 ∧ q / k2 * k2 + q % k2 = q := fun q hq =>
        ⟨(Nat.div_lt_iff_lt_mul hk0).2 hq, Nat.mod_lt _ hk0, by rw [Nat.mul_comm]; exact Nat.div_add_mod q k2⟩
      have hcell : ∀ q, q < ys.length * k2 → F blk (off + q) ∧ w.cell? ⟨blk, off + q, none⟩ = some (c (q / k2) (q % k2)) ∧ (c (q / k2) (q % k2)).oneCell' = true := by
        intro q hq
        obtain ⟨b1, b2, b3⟩ := hmem q hq
        have hl := hkl ys[q / k2] (by simp)
        have := h1 (q / k2) ys[q / k2] (q % k2) (ys[q / k2][q % k2]'(by omega)) (List.getElem?_eq_getElem b1) (List.getElem?_eq_getElem (by omega))
        rw [Nat.add_assoc, b3] at this
        exact this
      refine ⟨(List.range (ys.length * k2)).map fun q => c (q / k2) (q % k2), some ⟨blk, off, none⟩, cap, rfl, by simp, fun u hu => ?_, ⟨hkl, fun j x m d hx hd => ?_⟩, fun w2 hw2 => ?_⟩
      · obtain ⟨q, hq, rfl⟩ := List.mem_map.1 hu
        exact (hcell q (List.mem_range.1 hq)).2.2
      · have hj := (List.getElem?_eq_some_iff.1 hx).1
        have hm : m < k2 := by
          have := (List.getElem?_eq_some_iff.1 hd).1
          rw [hkl x (List.mem_of_getElem? hx)] at this
          exact this
        have hlt := lt_mul hj hm
        have hdiv : (j * k2 + m) / k2 = j := by
          rw [Nat.add_comm, Nat.add_mul_div_right _ _ hk0, Nat.div_eq_of_lt hm, Nat.zero_add]
        refine ⟨c j m, ?_, (h1 j x m d hx hd).2.2, h2 j x m d hx hd⟩
        simp [hlt, hdiv, mod_row hm]
      · refine run_firstCells_some (P := P) w2 k2 ys.length ⟨blk, off, none⟩ ys.length cap _ (by simp) fun j u hu => ?_
        have hj := (List.getElem?_eq_some_iff.1 hu).1
        simp only [List.length_map, List.length_range] at hj
        obtain ⟨b1, b2, b3⟩ := hcell j hj
        simp [hj] at hu
        rw [addr_add, hw2 _ _ b1, b2, hu]

theorem run_append_types {t u ty e e' : TypeId} (ht : P.underlying t = some (.slice e)) (hu : P.underlying u = some (.slice e')) (x y : Value) :
    (Builtin.append_ #[t, u] ty #[x, y]).run P w = (Builtin.append_ #[t, t] ty #[x, y]).run P w := by
  cases x <;> simp [Builtin.append_, run_underlying ht, run_underlying hu]

theorem run_app_room {t ty e : TypeId} {i : TypeInfo} {b : Nat} {off n cap m c2 : Nat} {b2 : Option Addr} {news : List Value} (ht : P.underlying t = some (.slice e)) (hi : P.info? e = some i)
    (hroom : n + m ≤ cap) (hn : (Builtin.firstCells i.size m (.slice b2 m c2)).run P w = .ok news.toArray w) (hst : (storeCells ⟨b, off + n * i.size, none⟩ news).run P w = .ok () w') :
    (Builtin.append_ #[t, t] ty #[.slice (some ⟨b, off, none⟩) n cap, .slice b2 m c2]).run P w = .ok (.slice (some ⟨b, off, none⟩) (n + m) cap) w' := by
  simp [Builtin.append_, run_underlying ht, sizeOf, typeInfo, hi, Builtin.lenOf, hroom, hn, addr_add, hst]

theorem run_app_none {t ty e : TypeId} {i : TypeInfo} {n m cap c2 : Nat} {b2 : Option Addr} {news : List Value} (ht : P.underlying t = some (.slice e)) (hi : P.info? e = some i)
    (hroom : n + m ≤ cap) (hn : (Builtin.firstCells i.size m (.slice b2 m c2)).run P w = .ok news.toArray w) :
    (Builtin.append_ #[t, t] ty #[.slice none n cap, .slice b2 m c2]).run P w = .ok (.slice none (n + m) cap) w := by
  simp [Builtin.append_, run_underlying ht, sizeOf, typeInfo, hi, Builtin.lenOf, hroom, hn]

theorem run_app_grow {t ty e : TypeId} {i : TypeInfo} {z : Value} {n m cap c2 : Nat} {b1 b2 : Option Addr} {olds news : List Value} (ht : P.underlying t = some (.slice e)) (hi : P.info? e = some i) (hz : i.zero = some z)
    (hroom : cap < n + m) (hb : i.bytes ≤ 65536) (hsm : n + m ≤ maxLenD) (ho : (Builtin.firstCells i.size n (.slice b1 n cap)).run P w.drew = .ok olds.toArray w.drew) (hn : (Builtin.firstCells i.size m (.slice b2 m c2)).run P w.drew = .ok news.toArray w.drew) :
    (Builtin.append_ #[t, t] ty #[.slice b1 n cap, .slice b2 m c2]).run P w =
      .ok (.slice (some ⟨w.heap.size, 0, none⟩) (n + m) (grownCap w (n + m) cap e)) (w.drew.alloc (.cells (olds.toArray ++ news.toArray ++ Builtin.zeroCells z.cells (grownCap w (n + m) cap e - (n + m))) e)) := by
  have hn1 : ¬ (n + m ≤ cap) := by omega
  simp only [maxLenD] at hsm
  have h63' : ¬ (9223372036854775807 < ((n : Int) + (m : Int))) := by omega
  have h48' : ¬ (281474976710656 < Builtin.nextslicecap (n + m) cap * i.bytes) := by
    have h1 := nextslicecap_le (need := n + m) (old := cap) (by omega)
    have h2 : Builtin.nextslicecap (n + m) cap * i.bytes ≤ 2097152 * 65536 := Nat.mul_le_mul (by omega) hb
    omega
  simp [Builtin.append_, run_underlying ht, sizeOf, typeInfo, zeroValue, hi, hz, Builtin.lenOf, hn1, h63', h48', Question.forced, ho, hn, newRow, grownCap]
  congr 2
  apply Array.ext'
  simp [List.append_assoc]

theorem getElem?_app3 (xs ys zs : Array Value) (q : Nat) : (xs ++ ys ++ zs)[q]? = if q < xs.size then xs[q]? else if q < xs.size + ys.size then ys[q - xs.size]? else zs[q - xs.size - ys.size]? := by
  rw [Array.getElem?_append]
  simp only [Array.size_append]
  by_cases h1 : q < xs.size
  · rw [if_pos (by omega), if_pos h1, Array.getElem?_append_left h1]
  · rw [if_neg h1]
    by_cases h2 : q < xs.size + ys.size
    · rw [if_pos h2, if_pos h2, Array.getElem?_append_right (by omega)]
    · rw [if_neg h2, if_neg h2]
      congr 1
      omega

theorem RowOk.append {k : Nat} {olds news rest : Array Value} {xs ys : List (List D)} (h1 : RowOk dp F G w k olds xs) (h2 : RowOk dp F G w k news ys) (l1 : olds.size = xs.length * k) (l2 : news.size = ys.length * k) :
    RowOk dp F G w k (olds ++ news ++ rest) (xs ++ ys) := by
  refine ⟨fun x hx => ?_, fun j x m d hx hd => ?_⟩
  · rcases List.mem_append.1 hx with hx | hx
    · exact h1.1 x hx
    · exact h2.1 x hx
  · by_cases hj : j < xs.length
    · rw [List.getElem?_append_left hj] at hx
      obtain ⟨v, a1, a2, a3⟩ := h1.2 j x m d hx hd
      have hm : m < k := by
        have := (List.getElem?_eq_some_iff.1 hd).1
        rw [h1.1 x (List.mem_of_getElem? hx)] at this
        exact this
      have hlt := lt_mul hj hm
      refine ⟨v, ?_, a2, a3⟩
      rw [getElem?_app3, if_pos (by omega)]
      exact a1
    · rw [List.getElem?_append_right (by omega)] at hx
      obtain ⟨v, a1, a2, a3⟩ := h2.2 _ x m d hx hd
      have hj2 := (List.getElem?_eq_some_iff.1 hx).1
      have hm : m < k := by
        have := (List.getElem?_eq_some_iff.1 hd).1
        rw [h2.1 x (List.mem_of_getElem? hx)] at this
        exact this
      have hlt := lt_mul hj2 hm
      have e : j * k = xs.length * k + (j - xs.length) * k := by rw [← Nat.add_mul]; congr 1; omega
      refine ⟨v, ?_, a2, a3⟩
      rw [getElem?_app3, if_neg (by omega), if_pos (by omega)]
      rw [show j * k + m - olds.size = (j - xs.length) * k + m by omega]
      exact a1

theorem sset_consume {t : Nat} (id : Nat) (e : Ent) (h : sget (sset S t (.tok false)) id = some e) : sget S id = some e ∨ ¬ holds e := by
  rw [sget_sset] at h
  split at h
  · injection h with h; subst h
    exact .inr (fun h => h)
  · exact .inl h

/-- Appending within the row: what is written becomes fixed; the token goes to the new holder. -/
theorem Sim.extend (hs : Sim dp F G w S) {t : Nat} {g : Gh} {x : Obj} {lo : Nat} (ht : sget S t = some (.tok true)) (hg : sget G t = some g) (hw : Wrote w g.blk x w')
    (hcell : ∀ o, F g.blk o → w'.cell? ⟨g.blk, o, none⟩ = w.cell? ⟨g.blk, o, none⟩) (hlo : g.lo ≤ lo) (hex : ∀ o, g.lo ≤ o → o < lo → ∃ v, w'.cell? ⟨g.blk, o, none⟩ = some v)
    (hx : ∃ vs T, x = .cells vs T (0, 0) ∧ g.hi ≤ vs.size) :
    Sim dp (fun b o => F b o ∨ (b = g.blk ∧ g.lo ≤ o ∧ o < lo)) (⟨g.blk, lo, g.hi⟩ :: G) w' (.tok true :: sset S t (.tok false)) ∧
    Ext F G w S (fun b o => F b o ∨ (b = g.blk ∧ g.lo ≤ o ∧ o < lo)) (⟨g.blk, lo, g.hi⟩ :: G) w' (.tok true :: sset S t (.tok false)) := by
  obtain ⟨_, _, _, _, hfree⟩ := hs.ent t _ g ht hg
  have hlen : (sset S t (.tok false)).length = S.length := sset_length _ _ _
  refine hs.step (fun b => b = g.blk) (by simp [hlen, hs.len]) (fun id g' h => by rw [sget_cons _ _ _ (sget_lt h)]; exact h) (fun _ _ h => .inl h)
    (fun b o h => ?_) (fun b o h => ?_) (fun b _ hb => hw.other b hb) (fun b hb => .inl ⟨t, _, g, ht, trivial, hg, hb.symm⟩) ?_ (by rw [hw.size]; exact Nat.le_refl _) hw.os hw.tape hw.output
  · by_cases hb : b = g.blk
    · subst hb; exact hcell o h
    · exact World.cell?_of_block (a := ⟨b, o, none⟩) (hw.other b hb)
  · rcases h with h | ⟨rfl, h1, h2⟩
    · exact .inl h
    · exact .inr ⟨rfl, hex o h1 h2⟩
  · have hold : ∀ {j e' g'}, j ≠ S.length → sget (.tok true :: sset S t (.tok false)) j = some e' → sget (⟨g.blk, lo, g.hi⟩ :: G) j = some g' → holds e' → sget S j = some e' ∧ sget G j = some g' ∧ g'.blk ≠ g.blk := by
      intro j e' g' hj h1 h2 hh
      simp only [sget] at h1 h2
      rw [hlen, if_neg hj] at h1
      rw [hs.len, if_neg hj] at h2
      rw [sget_sset] at h1
      split at h1
      · injection h1 with h1; subst h1; exact hh.elim
      · rename_i hjt
        refine ⟨h1, h2, hs.sep j t e' _ g' g ?_ h1 ht hh trivial h2 hg⟩
        intro heq
        exact hjt ⟨heq, heq ▸ sget_lt h1⟩
    intro id e' g' h1 h2
    by_cases hid : id = S.length
    · have e1 : e' = .tok true := by rw [hid, ← hlen, sget_top] at h1; injection h1 with h1; exact h1.symm
      have e2 : g' = ⟨g.blk, lo, g.hi⟩ := by rw [hid, ← hs.len, sget_top] at h2; injection h2 with h2; exact h2.symm
      refine .inr (.inr ?_)
      rw [e1, e2]
      obtain ⟨vs, T, rfl, hhi⟩ := hx
      refine ⟨rfl, ⟨vs, T, hw.at_, hhi, fun o ho h => ?_⟩, fun j e'' g'' hj h3 h4 hh => (hold (by omega) h3 h4 hh).2.2⟩
      simp only at ho
      rcases h with h | ⟨_, _, h⟩
      · exact hfree o (by omega) h
      · omega
    · by_cases hh : holds e'
      · obtain ⟨a1, a2, a3⟩ := hold hid h1 h2 hh
        exact .inr (.inl ⟨a1, a2, a3⟩)
      · exact .inl hh

theorem rel_sl {k : Nat} {nl : Bool} {xs : List (List D)} {ow : Own} {v : Value} (h : Rel dp F G w v (.sl k nl xs ow)) (hno : nl = true ∨ ow ≠ .ro) :
    (nl = true ∧ xs = [] ∧ v = .slice none 0 0) ∨ (nl = false ∧ ∃ (blk off cap : Nat) (c : Nat → Nat → Value), v = .slice (some ⟨blk, off, none⟩) xs.length cap ∧ (∀ x ∈ xs, x.length = k) ∧ xs.length ≤ cap ∧
      (∀ (j : Nat) (x : List D) (m : Nat) (d : D), xs[j]? = some x → x[m]? = some d → F blk (off + j * k + m) ∧ w.cell? ⟨blk, off + j * k + m, none⟩ = some (c j m) ∧ (c j m).oneCell' = true) ∧
      (∀ (j : Nat) (x : List D) (m : Nat) (d : D), xs[j]? = some x → x[m]? = some d → Rel dp F G w (c j m) d) ∧ OwnOk G blk (off + xs.length * k) (off + cap * k) cap ow) := by
  cases h with
  | nil => exact .inl ⟨rfl, rfl, rfl⟩
  | emp _ ad cap => simp at hno
  | sl _ _ _ blk off cap c hkl hcap h1 h2 ho => exact .inr ⟨rfl, blk, off, cap, c, rfl, hkl, hcap, h1, h2, ho⟩

theorem appA_cases {k id n : Nat} {ys : List (List D)} {r : D × Store} (h : appA k id n ys S = some r) :
    ∃ cs, sget S id = some (.box cs) ∧ n * k ≤ cs.length ∧ r = (.ar k S.length 0 (n + ys.length), .box (cs.take (n * k) ++ ys.flatten) :: sset S id .gone) := by
  unfold appA at h
  split at h
  · rename_i cs hcs
    split at h
    · rename_i hle
      injection h with h
      exact ⟨cs, hcs, hle, h.symm⟩
    · cases h
  · cases h

theorem appD_ar {k : Nat} {arr : Bool} {k1 id o n : Nat} {y : D} {r : D × Store} (h : appD k arr (.ar k1 id o n) y S = some r) :
    ∃ k2 nl2 ys ow2, k1 = k ∧ o = 0 ∧ y = .sl k2 nl2 ys ow2 ∧ (k2 = k ∨ ys = []) ∧ n + ys.length ≤ maxLenD ∧ appA k id n ys S = some r := by
  unfold appD at h
  split at h
  · rename_i ow2 e1
    injection e1 with a1 a2 a3 a4
    subst a1 a2 a3 a4
    split at h
    · rename_i hc
      exact ⟨_, _, _, _, hc.1, hc.2.2.2, rfl, hc.2.1, hc.2.2.1, h⟩
    · cases h
  · rename_i e1; cases e1
  · cases h

theorem sset_gone {t : Nat} (id : Nat) (e : Ent) (h : sget (sset S t .gone) id = some e) : sget S id = some e ∨ ¬ holds e := by
  rw [sget_sset] at h
  split at h
  · injection h with h; subst h
    exact .inr (fun h => h)
  · exact .inl h

/-- An array is written, and its entry moves to the top. -/
theorem Sim.reown (hs : Sim dp F G w S) {t : Nat} {g : Gh} {x : Obj} {cs zs : List D} (ht : sget S t = some (.box cs)) (hg : sget G t = some g) (hw : Wrote w g.blk x w')
    (he : EntOk dp F (⟨g.blk, 0, g.hi⟩ :: G) w' ⟨g.blk, 0, g.hi⟩ (.box zs)) :
    Sim dp F (⟨g.blk, 0, g.hi⟩ :: G) w' (.box zs :: sset S t .gone) ∧ Ext F G w S F (⟨g.blk, 0, g.hi⟩ :: G) w' (.box zs :: sset S t .gone) := by
  obtain ⟨_, _, _, _, hfree, _⟩ := hs.ent t _ g ht hg
  have hlen : (sset S t .gone).length = S.length := sset_length _ _ _
  refine hs.step (fun b => b = g.blk) (by simp [hlen, hs.len]) (fun id g' h => by rw [sget_cons _ _ _ (sget_lt h)]; exact h) (fun _ _ h => h)
    (fun b o h => ?_) (fun b o h => .inl h) (fun b _ hb => hw.other b hb) (fun b hb => .inl ⟨t, _, g, ht, trivial, hg, hb.symm⟩) ?_ (by rw [hw.size]; exact Nat.le_refl _) hw.os hw.tape hw.output
  · by_cases hb : b = g.blk
    · subst hb; exact (hfree o h).elim
    · exact World.cell?_of_block (a := ⟨b, o, none⟩) (hw.other b hb)
  · have hold : ∀ {j e' g'}, j ≠ S.length → sget (.box zs :: sset S t .gone) j = some e' → sget (⟨g.blk, 0, g.hi⟩ :: G) j = some g' → holds e' → sget S j = some e' ∧ sget G j = some g' ∧ g'.blk ≠ g.blk := by
      intro j e' g' hj h1 h2 hh
      simp only [sget] at h1 h2
      rw [hlen, if_neg hj] at h1
      rw [hs.len, if_neg hj] at h2
      rw [sget_sset] at h1
      split at h1
      · injection h1 with h1; subst h1; exact hh.elim
      · rename_i hjt
        refine ⟨h1, h2, hs.sep j t e' _ g' g ?_ h1 ht hh trivial h2 hg⟩
        intro heq
        exact hjt ⟨heq, heq ▸ sget_lt h1⟩
    intro id e' g' h1 h2
    by_cases hid : id = S.length
    · have e1 : e' = .box zs := by rw [hid, ← hlen, sget_top] at h1; injection h1 with h1; exact h1.symm
      have e2 : g' = ⟨g.blk, 0, g.hi⟩ := by rw [hid, ← hs.len, sget_top] at h2; injection h2 with h2; exact h2.symm
      refine .inr (.inr ?_)
      rw [e1, e2]
      exact ⟨rfl, he, fun j e'' g'' hj h3 h4 hh => (hold (by omega) h3 h4 hh).2.2⟩
    · by_cases hh : holds e'
      · obtain ⟨a1, a2, a3⟩ := hold hid h1 h2 hh
        exact .inr (.inl ⟨a1, a2, a3⟩)
      · exact .inl hh

theorem appD_cases {k : Nat} {arr : Bool} {x y : D} {r : D × Store} (hx : ∀ a b c d, x ≠ .ar a b c d) (h : appD k arr x y S = some r) :
    ∃ nl xs ow k2 nl2 ys ow2, x = .sl k nl xs ow ∧ y = .sl k2 nl2 ys ow2 ∧ (k2 = k ∨ ys = []) ∧ xs.length + ys.length ≤ maxLenD ∧
      ((∃ t, ow = .tok t ∧ sget S t = some (.tok true) ∧ arr = false ∧ nl = false ∧ r = (.sl k false (xs ++ ys) (.tok S.length), .tok true :: sset S t (.tok false))) ∨
       ((ow = .cap0 ∨ nl = true) ∧ ((ys = [] ∧ r = (.sl k nl xs ow, S)) ∨ (0 < ys.length ∧ arr = true ∧ r = (.ar k S.length 0 ys.length, .box ys.flatten :: S)) ∨
         (0 < ys.length ∧ arr = false ∧ r = (.sl k false ys (.tok S.length), .tok true :: S))))) := by
  unfold appD at h
  split at h
  · exact absurd rfl (hx _ _ _ _)
  · rename_i k1 nl xs ow k2 nl2 ys ow2
    split at h
    · rename_i hcond
      obtain ⟨rfl, hk2, hlen⟩ := hcond
      refine ⟨nl, xs, ow, k2, nl2, ys, ow2, rfl, rfl, hk2, hlen, ?_⟩
      have rest : ∀ c : Bool, (c = true → ow = .cap0 ∨ nl = true) → (if c = true then (if ys.isEmpty then some (D.sl k1 nl xs ow, S)
          else if arr then some (.ar k1 S.length 0 ys.length, .box ys.flatten :: S)
          else some (.sl k1 false ys (.tok S.length), .tok true :: S)) else none) = some r →
          ((ow = .cap0 ∨ nl = true) ∧ ((ys = [] ∧ r = (.sl k1 nl xs ow, S)) ∨ (0 < ys.length ∧ arr = true ∧ r = (.ar k1 S.length 0 ys.length, .box ys.flatten :: S)) ∨
         (0 < ys.length ∧ arr = false ∧ r = (.sl k1 false ys (.tok S.length), .tok true :: S)))) := by
        intro c hc h
        split at h
        · rename_i hct
          refine ⟨hc hct, ?_⟩
          split at h
          · rename_i hemp
            injection h with h
            exact .inl ⟨by simpa using hemp, h.symm⟩
          · rename_i hne
            have hpos : 0 < ys.length := by
              cases ys with
              | nil => simp at hne
              | cons _ _ => simp
            split at h
            · rename_i ha
              injection h with h
              exact .inr (.inl ⟨hpos, ha, h.symm⟩)
            · rename_i ha
              injection h with h
              exact .inr (.inr ⟨hpos, by simpa using ha, h.symm⟩)
        · cases h
      cases ow with
      | ro => exact .inr (rest nl (fun h => .inr h) h)
      | cap0 => exact .inr (rest true (fun h => .inl rfl) h)
      | tok t =>
        simp only at h
        split at h
        · rename_i htok
          split at h
          · cases h
          · rename_i hn
            simp only [Bool.or_eq_true, not_or, Bool.not_eq_true] at hn
            injection h with h
            exact .inl ⟨t, rfl, htok, hn.1, hn.2, h.symm⟩
        · cases h
    · cases h
  · cases h

theorem ok_app {k : Nat} {arr : Bool} {x y : A} {r : D × Store} (hm : mR P dp o.op (.app k arr x y) = true) (hs : Sim dp F G w S) (hf : Fr dp F G w a fr) (he : appD k arr (av fr x) (av fr y) S = some r) :
    OpOk P dp F G w S a o r.1 r.2 := by
  simp only [mR] at hm
  split at hm
  · rename_i c ho
    simp only [Bool.and_eq_true] at hm
    obtain ⟨⟨hb, ht⟩, hargs⟩ := hm
    split at hb
    · rename_i hcal
      split at ht
      · rename_i t u hts
        simp only [Bool.and_eq_true] at ht
        obtain ⟨ht, hu⟩ := ht
        split at ht
        · rename_i e hut
          simp only [Bool.and_eq_true, decide_eq_true_eq] at ht
          obtain ⟨⟨hsz, hk0⟩, hinfo⟩ := ht
          split at hinfo
          · rename_i i hi
            simp only [Bool.and_eq_true, decide_eq_true_eq] at hinfo
            obtain ⟨hbytes, hzz⟩ := hinfo
            split at hzz
            · rename_i z hz
              simp only [beq_iff_eq, Bool.and_eq_true, List.all_eq_true] at hzz
              obtain ⟨hzz, hzone⟩ := hzz
              have hisz : i.size = k := by
                unfold mSz at hsz
                rw [hi] at hsz
                simpa using hsz
              unfold mU at hu
              split at hu
              · rename_i du hdu
                dsimp only at hu
                split at hu
                · rename_i e'
                  have hat : c.argTypes = #[t, u] := by
                    apply Array.ext'
                    rw [hts]
                  obtain ⟨l1, _, _⟩ := hf.evals hargs
                  have hl : c.args.toList.length = 2 := by rw [l1]; rfl
                  match hx : c.args.toList, hl with
                  | [x1, x2], _ =>
                    rw [hx] at hargs
                    simp only [mAs, Bool.and_eq_true] at hargs
                    have r1 := hf.eval hargs.1
                    have r2 := hf.eval hargs.2.1
                    have hargs' : c.args.map a.eval = #[a.eval x1, a.eval x2] := by
                      apply Array.ext'
                      simp [hx]
                    have run : ∀ v w', (Builtin.append_ #[t, t] o.type #[a.eval x1, a.eval x2]).run P w = .ok v w' → (execOp a.eval o).run P w = .ok (.value v) w' := by
                      intro v w' h
                      simp only [execOp, ho, resolve, hcal, Sem.run_bind, Sem.run_pure, Result.andThen, invoke, builtin, hat, hargs', run_append_types hut hdu, h]
                    generalize a.eval x1 = v1 at r1 run
                    generalize a.eval x2 = v2 at r2 run
                    generalize av fr x = xd at r1 he
                    generalize av fr y = yd at r2 he
                    by_cases hxar : ∃ k1 id off n, xd = .ar k1 id off n
                    · obtain ⟨k1, id, off, n, rfl⟩ := hxar
                      obtain ⟨k2, nl2, ys, ow2, rfl, rfl, rfl, hk2, hlen, he⟩ := appD_ar he
                      obtain ⟨cs, hsg, hnk, rfl⟩ := appA_cases he
                      obtain ⟨news, b2, c2, rfl, n1, n2, n3, n4⟩ := rel_news (P := P) r2 hk2 hk0
                      cases r1 with
                      | ar _ _ _ _ cap g hg hnc =>
                        obtain ⟨hncap, hchi⟩ := hnc
                        rw [Nat.zero_add] at hchi
                        obtain ⟨vs, T, e1, ⟨e2, e2h⟩, e3, e4, e5⟩ := hs.ent id _ g hsg hg
                        have hcells := row_cells n3 hk0 (by simpa using n1)
                        have hfl := hcells.1
                        simp only [List.size_toArray] at hfl
                        have hn := n4 w (fun _ _ _ => rfl)
                        have hnd := n4 w.drew (fun _ _ _ => rfl)
                        have htk : (cs.take (n * k1)).length = n * k1 := by rw [List.length_take]; omega
                        by_cases hroom : n + ys.length ≤ cap
                        · have hle : (n + ys.length) * k1 ≤ cap * k1 := Nat.mul_le_mul_right k1 hroom
                          rw [Nat.add_mul] at hle
                          have hfit : n * k1 + news.length ≤ vs.size := by omega
                          have hst := run_storeCells_at P g.blk (0 + n * k1) T news 0 vs w e1 (by omega) n2
                          simp only [Nat.add_zero, Nat.zero_add] at hst
                          have hsim := hs.reown (zs := cs.take (n * k1) ++ ys.flatten) hsg hg (wrote_setRow (cs := (vs.toList.take (n * k1) ++ news ++ vs.toList.drop (n * k1 + news.length)).toArray) e1)
                            ⟨_, T, setRow_heap w g.blk vs _ T _ e1, ⟨by rw [put_size _ _ _ hfit, List.length_append, htk]; omega, by rw [put_size _ _ _ hfit]; exact e2h⟩, e3, put_one e4 n2, fun m v d hv hd => by
                              rw [put_get _ _ _ _ hfit] at hv
                              have hmono : ∀ {v : Value} {d : D}, Rel dp F G w v d → Rel dp F (⟨g.blk, 0, g.hi⟩ :: G) (w.setRow g.blk (vs.toList.take (n * k1) ++ news ++ vs.toList.drop (n * k1 + news.length)).toArray) v d := fun h =>
                                h.mono (fun _ _ h => h) (fun id g h => by rw [sget_cons _ _ _ (sget_lt h)]; exact h) fun b o h => World.cell?_of_block (a := ⟨b, o, none⟩) (setRow_other w g.blk b _ fun heq => e3 o (heq ▸ h))
                              by_cases hm : m < n * k1
                              · rw [List.getElem?_append_left (by omega), List.getElem?_take_of_lt hm] at hd
                                rw [if_neg (by omega)] at hv
                                exact hmono (e5 m v d hv hd)
                              · rw [List.getElem?_append_right (by omega), htk] at hd
                                have hml := (List.getElem?_eq_some_iff.1 hd).1
                                rw [if_pos (by omega)] at hv
                                exact hmono (hcells.2 _ v d (by simpa using hv) hd)⟩
                          refine opOk_value (run _ _ (run_app_room hut hi hroom (by rw [hisz]; exact hn) (by rw [hisz, Nat.zero_add]; exact hst))) hsim ?_
                          exact .ar k1 S.length 0 _ cap ⟨g.blk, 0, g.hi⟩ (by rw [← hs.len, sget_top]) ⟨hroom, by simpa using hchi⟩
                        · have hnv : n * k1 ≤ vs.size := by omega
                          have hod : (Builtin.firstCells i.size n (.slice (some ⟨g.blk, 0, none⟩) n cap)).run P w.drew = .ok (vs.toList.take (n * k1)).toArray w.drew := by
                            rw [hisz]
                            refine run_firstCells_some (P := P) w.drew k1 n ⟨g.blk, 0, none⟩ n cap _ (by simp; omega) fun j u hu => ?_
                            have hj := (List.getElem?_eq_some_iff.1 hu).1
                            simp only [List.length_take] at hj
                            rw [List.getElem?_take_of_lt (by omega)] at hu
                            rw [addr_add, Nat.zero_add]
                            show w.cell? ⟨g.blk, j, none⟩ = some u
                            rw [cell_box e1]
                            simpa using hu
                          have hgr := run _ _ (run_app_grow hut hi hz (show cap < n + ys.length by omega) hbytes hlen hod (by rw [hisz]; exact hnd))
                          have hge := grownCap_ge w (n + ys.length) cap e
                          have ht1 : (vs.toList.take (n * k1)).length = n * k1 := by rw [List.length_take]; simp; omega
                          have hsize : ((vs.toList.take (n * k1)).toArray ++ news.toArray ++ Builtin.zeroCells z.cells (grownCap w (n + ys.length) cap e - (n + ys.length))).size = grownCap w (n + ys.length) cap e * k1 := by
                            simp only [Array.size_append, List.size_toArray, ht1, n1, size_zeroCells, hzz]
                            rw [← Nat.add_mul, ← Nat.add_mul]
                            congr 1
                            omega
                          have hle : CellsLe dp F G w ((vs.toList.take (n * k1)).toArray ++ news.toArray ++ Builtin.zeroCells z.cells (grownCap w (n + ys.length) cap e - (n + ys.length))) (cs.take (n * k1) ++ ys.flatten) := by
                            refine ⟨by simp only [Array.size_append, List.size_toArray, List.length_append, htk, ht1]; omega, fun m v d hv hd => ?_⟩
                            rw [getElem?_app3] at hv
                            simp only [List.size_toArray, ht1] at hv
                            by_cases hm : m < n * k1
                            · rw [List.getElem?_append_left (by omega), List.getElem?_take_of_lt hm] at hd
                              rw [if_pos hm, List.getElem?_toArray, List.getElem?_take_of_lt hm] at hv
                              exact e5 m v d (by simpa using hv) hd
                            · rw [List.getElem?_append_right (by omega), htk] at hd
                              have hml := (List.getElem?_eq_some_iff.1 hd).1
                              rw [if_neg hm, if_pos (by omega)] at hv
                              exact hcells.2 _ v d (by simpa using hv) hd
                          have hbox := hs.pushBoxH (grownCap w (n + ys.length) cap e * k1) (grown_drew w _) hle (fun u hu => by
                              simp only [Array.toList_append, List.mem_append] at hu
                              rcases hu with (hu | hu) | hu
                              · exact e4 u (List.mem_of_mem_take (by simpa using hu))
                              · exact n2 u hu
                              · obtain ⟨q, hq, rfl⟩ := List.getElem_of_mem hu
                                simp only [Builtin.zeroCells] at hq ⊢
                                have hq' : q < (grownCap w (n + ys.length) cap e - (n + ys.length)) * z.cells.size := by simpa using hq
                                have hmod : q % z.cells.size < z.cells.size := Nat.mod_lt _ (by omega)
                                simp [hmod]
                                exact hzone _ (by simp)) (T := e) (S0 := sset S id .gone) (sset_length _ _ _) sset_gone (by rw [hsize]; exact Nat.le_refl _)
                          refine opOk_value hgr hbox ?_
                          have := Rel.ar (dp := dp) (F := F) (G := ⟨w.heap.size, 0, grownCap w (n + ys.length) cap e * k1⟩ :: G) (w := w.drew.alloc (.cells ((vs.toList.take (n * k1)).toArray ++ news.toArray ++ Builtin.zeroCells z.cells (grownCap w (n + ys.length) cap e - (n + ys.length))) e))
                            k1 S.length 0 (n + ys.length) (grownCap w (n + ys.length) cap e) ⟨w.heap.size, 0, grownCap w (n + ys.length) cap e * k1⟩ (by rw [← hs.len, sget_top]) ⟨hge, by simp⟩
                          exact this
                    obtain ⟨nl, xs, ow, k2, nl2, ys, ow2, rfl, rfl, hk2, hlen, he⟩ := appD_cases (fun a b c d e => hxar ⟨a, b, c, d, e⟩) he
                    obtain ⟨news, b2, c2, rfl, n1, n2, n3, n4⟩ := rel_news (P := P) r2 hk2 hk0
                    obtain ⟨olds, b1, cap, hv1, m1, m2, m3, m4⟩ := rel_news (P := P) r1 (.inl rfl) hk0
                    subst hv1
                    have hn := n4 w (fun _ _ _ => rfl)
                    have hnd := n4 w.drew (fun _ _ _ => rfl)
                    have hod := m4 w.drew (fun _ _ _ => rfl)
                    -- a new row
                    have grow : cap < xs.length + ys.length → (execOp a.eval o).run P w = .ok (.value (.slice (some ⟨w.heap.size, 0, none⟩) (xs.length + ys.length) (grownCap w (xs.length + ys.length) cap e)))
                        (w.drew.alloc (.cells (olds.toArray ++ news.toArray ++ Builtin.zeroCells z.cells (grownCap w (xs.length + ys.length) cap e - (xs.length + ys.length))) e)) := fun hc =>
                      run _ _ (run_app_grow hut hi hz hc hbytes hlen (by rw [hisz]; exact hod) (by rw [hisz]; exact hnd))
                    have hge := grownCap_ge w (xs.length + ys.length) cap e
                    have hrow := m3.append n3 (rest := Builtin.zeroCells z.cells (grownCap w (xs.length + ys.length) cap e - (xs.length + ys.length))) (by simpa using m1) (by simpa using n1)
                    have hsize : (olds.toArray ++ news.toArray ++ Builtin.zeroCells z.cells (grownCap w (xs.length + ys.length) cap e - (xs.length + ys.length))).size = grownCap w (xs.length + ys.length) cap e * k := by
                      simp only [Array.size_append, List.size_toArray, m1, n1, size_zeroCells, hzz]
                      rw [← Nat.add_mul, ← Nat.add_mul]
                      congr 1
                      omega
                    have hlx : (xs ++ ys).length = xs.length + ys.length := List.length_append
                    rcases he with ⟨tk, rfl, htok, rfl, rfl, rfl⟩ | ⟨hemp, he⟩
                    · -- the holder of an open row
                      by_cases hroom : xs.length + ys.length ≤ cap
                      · rcases rel_sl r1 (.inr (by simp)) with ⟨h, _⟩ | ⟨_, blk, off, cap', cc, hv, hkl, hcap, h1, h2, hown⟩
                        · cases h
                        · injection hv with hv1 _ hv2
                          subst hv1 hv2
                          simp only [OwnOk] at hown
                          obtain ⟨vs, T, e1, e2, e3⟩ := hs.ent tk _ _ htok hown
                          simp only at e1 e2 e3
                          have hle : (xs.length + ys.length) * k ≤ cap * k := Nat.mul_le_mul_right k hroom
                          rw [Nat.add_mul] at hle
                          have hst := run_storeCells_at P blk (off + xs.length * k) T news 0 vs w e1 (by omega) n2
                          simp only [Nat.add_zero] at hst
                          have hfit : off + xs.length * k + news.length ≤ vs.size := by omega
                          have hcc : ∀ o, (w.setRow blk (vs.toList.take (off + xs.length * k) ++ news ++ vs.toList.drop (off + xs.length * k + news.length)).toArray).cell? ⟨blk, o, none⟩ =
                              if off + xs.length * k ≤ o ∧ o < off + xs.length * k + news.length then news[o - (off + xs.length * k)]? else w.cell? ⟨blk, o, none⟩ := by
                            intro o
                            rw [cell_box (setRow_heap w blk vs _ T _ e1), put_get _ _ _ _ hfit, cell_box e1]
                          have hsim := hs.extend htok hown (wrote_setRow (cs := (vs.toList.take (off + xs.length * k) ++ news ++ vs.toList.drop (off + xs.length * k + news.length)).toArray) e1) (lo := off + xs.length * k + news.length)
                            (fun o ho => by rw [hcc, if_neg]; intro h; exact e3 o h.1 ho) (by simp) (fun o h1 h2 => by
                              simp only at h1 h2
                              rw [hcc, if_pos ⟨h1, h2⟩]
                              have : o - (off + xs.length * k) < news.length := by omega
                              exact ⟨news[o - (off + xs.length * k)], List.getElem?_eq_getElem this⟩) ⟨_, T, rfl, by
                                rw [put_size _ _ _ hfit]
                                exact e2⟩
                          refine opOk_value (run _ _ (run_app_room hut hi hroom (by rw [hisz]; exact hn) (by rw [hisz]; exact hst))) hsim ?_
                          rw [← hlx]
                          refine .sl k (xs ++ ys) _ blk off cap (fun j m => if j < xs.length then cc j m else news.getD ((j - xs.length) * k + m) undef) (fun q hq => ?_) (by omega) (fun j q m d hq hd => ?_) (fun j q m d hq hd => ?_) ?_
                          · rcases List.mem_append.1 hq with hq | hq
                            · exact hkl q hq
                            · exact n3.1 q hq
                          · by_cases hj : j < xs.length
                            · rw [List.getElem?_append_left hj] at hq
                              obtain ⟨b1, b2, b3⟩ := h1 j q m d hq hd
                              rw [if_pos hj]
                              refine ⟨.inl b1, ?_, b3⟩
                              rw [hcc, if_neg (fun h => e3 _ h.1 b1)]
                              exact b2
                            · rw [List.getElem?_append_right (by omega)] at hq
                              obtain ⟨v, a1, a2, a3⟩ := n3.2 _ q m d hq hd
                              have hj2 := (List.getElem?_eq_some_iff.1 hq).1
                              have hm : m < k := by
                                have := (List.getElem?_eq_some_iff.1 hd).1
                                rw [n3.1 q (List.mem_of_getElem? hq)] at this
                                exact this
                              have hlt := lt_mul hj2 hm
                              have e' : j * k = xs.length * k + (j - xs.length) * k := by rw [← Nat.add_mul]; congr 1; omega
                              rw [if_neg hj]
                              have hv : news.getD ((j - xs.length) * k + m) undef = v := by
                                have : news[(j - xs.length) * k + m]? = some v := by simpa using a1
                                simp [this]
                              rw [hv]
                              refine ⟨.inr ⟨rfl, by first | omega | (simp only; omega), by first | omega | (simp only; omega)⟩, ?_, a2⟩
                              rw [hcc, if_pos (by omega), show off + j * k + m - (off + xs.length * k) = (j - xs.length) * k + m by omega]
                              simpa using a1
                          · by_cases hj : j < xs.length
                            · rw [List.getElem?_append_left hj] at hq
                              rw [if_pos hj]
                              exact (h2 j q m d hq hd).ext hsim.2
                            · rw [List.getElem?_append_right (by omega)] at hq
                              obtain ⟨v, a1, a2, a3⟩ := n3.2 _ q m d hq hd
                              rw [if_neg hj]
                              have hv : news.getD ((j - xs.length) * k + m) undef = v := by
                                have : news[(j - xs.length) * k + m]? = some v := by simpa using a1
                                simp [this]
                              rw [hv]
                              exact a3.ext hsim.2
                          · have e' : off + (xs ++ ys).length * k = off + xs.length * k + news.length := by rw [hlx, Nat.add_mul, n1]; omega
                            simp only [OwnOk]
                            rw [e', ← hs.len, sget_top]
                      · obtain ⟨h1, h2⟩ := hs.pushRow (cap := grownCap w (xs.length + ys.length) cap e) (grown_drew w _) hrow hsize (by omega) (S0 := sset S tk (.tok false)) (sset_length _ _ _) sset_consume
                        rw [sset_length] at h2
                        rw [hlx] at h1 h2
                        exact opOk_value (grow (by omega)) h1 h2
                    · have hx0 : xs = [] ∧ cap = 0 := by
                        rcases rel_sl r1 (hemp.elim (fun h => .inr (by rw [h]; simp)) .inl) with ⟨_, hx0, hv⟩ | ⟨hnl, blk, off, cap', cc, hv, hkl, hcap, h1, h2, hown⟩
                        · injection hv with _ _ hv
                          exact ⟨hx0, hv⟩
                        · injection hv with _ _ hv
                          rcases hemp with rfl | hh
                          · simp only [OwnOk] at hown
                            exact ⟨List.eq_nil_of_length_eq_zero (by omega), by omega⟩
                          · rw [hh] at hnl; cases hnl
                      obtain ⟨rfl, rfl⟩ := hx0
                      simp only [List.length_nil, Nat.zero_add, List.nil_append] at grow hge hrow hsize
                      rcases he with ⟨rfl, rfl⟩ | ⟨hpos, rfl, rfl⟩ | ⟨hpos, rfl, rfl⟩
                      · have hnews : news = [] := List.eq_nil_of_length_eq_zero (by simpa using n1)
                        subst hnews
                        refine opOk_value (v := .slice b1 0 0) (w' := w) (run _ _ ?_) ⟨hs, Ext.refl _ _ _ _⟩ r1
                        rcases rel_sl r1 (hemp.elim (fun h => .inr (by rw [h]; simp)) .inl) with ⟨_, _, hv⟩ | ⟨_, blk, off, cap', cc, hv, _⟩
                        · injection hv with hv
                          subst hv
                          exact run_app_none (i := i) hut hi (Nat.le_refl _) (by rw [hisz]; exact hn)
                        · injection hv with hv
                          subst hv
                          exact run_app_room (i := i) hut hi (Nat.le_refl _) (by rw [hisz]; exact hn) (by simp [storeCells])
                      · have hcells := row_cells n3 hk0 (by simpa using n1)
                        have hle : CellsLe dp F G w (olds.toArray ++ news.toArray ++ Builtin.zeroCells z.cells (grownCap w ys.length 0 e - ys.length)) ys.flatten := by
                          have ho0 : olds = [] := List.eq_nil_of_length_eq_zero (by simpa using m1)
                          subst ho0
                          have hfl := hcells.1
                          simp only [List.size_toArray] at hfl
                          refine ⟨by simp only [Array.size_append, List.size_toArray]; omega, fun j v d hv hd => ?_⟩
                          have hj := (List.getElem?_eq_some_iff.1 hd).1
                          rw [getElem?_app3, if_neg (by simp), if_pos (by simp; omega)] at hv
                          exact hcells.2 j v d (by simpa using hv) hd
                        refine opOk_value (grow hpos) (hs.pushBoxH (grownCap w ys.length 0 e * k) (grown_drew w _) hle (fun u hu => ?_) rfl (fun _ _ h => .inl h) (by (have ho0 : olds = [] := List.eq_nil_of_length_eq_zero (by simpa using m1)); subst ho0; rw [← hsize]; simp)) (.ar k _ 0 _ _ ⟨w.heap.size, 0, grownCap w ys.length 0 e * k⟩ (by rw [← hs.len]; exact sget_top _ _) ⟨hge, by simp⟩)
                        simp only [Array.toList_append, List.mem_append] at hu
                        rcases hu with (hu | hu) | hu
                        · exact m2 u hu
                        · exact n2 u hu
                        · obtain ⟨q, hq, rfl⟩ := List.getElem_of_mem hu
                          simp only [Builtin.zeroCells] at hq ⊢
                          have hq' : q < (grownCap w ys.length 0 e - ys.length) * z.cells.size := by simpa using hq
                          have hmod : q % z.cells.size < z.cells.size := Nat.mod_lt _ (by omega)
                          simp [hmod]
                          exact hzone _ (by simp)
                      · obtain ⟨h1, h2⟩ := hs.pushRow (cap := grownCap w ys.length 0 e) (grown_drew w _) hrow hsize (by omega) (S0 := S) rfl (fun _ _ h => .inl h)
                        exact opOk_value (grow hpos) h1 h2
                · cases hu
              · cases hu
            · cases hzz
          · cases hinfo
        · cases ht
      · cases ht
    · cases hb
  · cases hm

end

end Go.Proofs.YtjniafcnjbbomaaGreatDoor.DE

namespace Go.Proofs.YtjniafcnjbbomaaGreatDoor.DE
open Go

section
variable {P : Program} {dp : Nat → Option Fn} {F F' : Fix} {G G' : List Gh} {w w' : World} {S S' : Store} {a : Act} {fr : List D} {o : Oper} {d : D} {cf : CallF}

/-- Values and what they say, one by one. -/
def RelA (dp : Nat → Option Fn) (F : Fix) (G : List Gh) (w : World) (vs : Array Value) (ds : List D) : Prop :=
  vs.size = ds.length ∧ ∀ (j : Nat) (v : Value) (d : D), vs[j]? = some v → ds[j]? = some d → Rel dp F G w v d

/-- What the calls of the evaluator say, the program's calls do. -/
def CallOk (P : Program) (dp : Nat → Option Fn) (cf : CallF) : Prop :=
  ∀ g f args S r S', dp g = some f → cf g args S = some (r, S') → ∀ F G w vs, Sim dp F G w S → RelA dp F G w vs args →
    ∀ R : Ending → World → Prop, (∀ v w' F' G', Sim dp F' G' w' S' → Ext F G w S F' G' w' S' → Rel dp F' G' w' v r → R (.returned v) w') → Calls P f.real vs w R

def Enter (P : Program) (dp : Nat → Option Fn) : Prop := ∀ g f, dp g = some f → ∃ fn, P.funcs[f.real]? = some fn ∧ (fn.name == "runtime.NumGoroutine") = false ∧ fn.body.isNone = false

theorem Sim.forget (hs : Sim dp F G w S) : Sim dp F [] w [] :=
  ⟨rfl, hs.fcell, fun _ _ _ h => (by cases h), fun _ _ _ _ _ _ _ h => (by cases h)⟩

theorem not_owns (b : Nat) : ¬ Owns [] [] b := by
  rintro ⟨_, _, _, h, _⟩
  cases h

/-- After a call with its own store the caller's store stands as it stood. -/
theorem Sim.recall {G0 : List Gh} {S0 : Store} (hs : Sim dp F G w S) (h : Sim dp F' G0 w' S0) (e : Ext F [] w [] F' G0 w' S0) : Sim dp F' G w' S ∧ Ext F G w S F' G w' S := by
  refine hs.step (fun b => w.heap.size ≤ b) hs.len (fun _ _ h => h) e.fsub e.cells (fun b o hF => ?_) (fun b hb _ => e.frame b hb (not_owns b)) (fun b hb => .inr hb) (fun id en g h1 h2 => ?_) e.size e.os e.tape e.output
  · rcases e.fnew b o hF with h1 | h1 | h1
    · exact .inl h1
    · exact (not_owns b h1).elim
    · exact .inr ⟨h1, h.fcell b o hF⟩
  · by_cases hh : holds en
    · have := hs.lt h1 h2 hh
      exact .inr (.inl ⟨h1, h2, by omega⟩)
    · exact .inl hh

theorem callR_ok (hc : CallOk P dp cf) {g : Nat} {f : Fn} {iso : Bool} {args : List D} {r : D} (hg : dp g = some f) (he : callR cf g iso args S = some (r, S')) {vs : Array Value} (hs : Sim dp F G w S)
    (hv : RelA dp F G w vs args) (R : Ending → World → Prop) (hR : ∀ v w' F' G', Sim dp F' G' w' S' → Ext F G w S F' G' w' S' → Rel dp F' G' w' v r → R (.returned v) w') : Calls P f.real vs w R := by
  unfold callR at he
  cases iso with
  | false => exact hc g f args S r S' hg (by simpa using he) F G w vs hs hv R hR
  | true =>
    simp only [if_true] at he
    cases hi : isoCall cf g args with
    | none => simp [hi] at he
    | some q =>
      simp only [hi, Option.map_some, Option.some.injEq, Prod.mk.injEq] at he
      obtain ⟨rfl, rfl⟩ := he
      unfold isoCall at hi
      split at hi
      · rename_i hn
        split at hi
        · rename_i r0 S0 hcall
          split at hi
          · rename_i hr
            injection hi with hi
            subst hi
            refine hc g f _ [] r0 S0 hg hcall F [] w vs hs.forget ⟨by rw [stripL_length]; exact hv.1, fun j v d h1 h2 => ?_⟩ R fun v w' F' G' h1 h2 h3 => ?_
            · have hno := noRefL_get hn h2
              obtain ⟨e, he, rfl⟩ := stripL_get h2
              exact (hv.2 j v e h1 he).strip.plain hno []
            · obtain ⟨h4, h5⟩ := hs.recall h1 h2
              exact hR v w' F' G h4 h5 (h3.stripT.plain hr G)
          · cases hi
        · cases hi
      · cases hi

theorem Fr.argsA {a : Act} {fr : List D} (h : Fr dp F G w a fr) {xs : Array Operand} {ys : List A} (hm : mAs dp xs.toList ys = true) : RelA dp F G w (xs.map a.eval) (avs fr ys) := by
  obtain ⟨h1, h2, h3⟩ := h.evals hm
  refine ⟨by rw [Array.size_map, h2, ← h1]; simp, fun j v d hv hd => h3 j v d ?_ hd⟩
  simpa using hv

theorem run_enter (hen : Enter P dp) {g : Nat} {f : Fn} (hg : dp g = some f) (args : Array Value) : (callFunc f.real args).run P w = .ok (.enter f.real args) w := by
  obtain ⟨fn, h1, h2, h3⟩ := hen g f hg
  have h2' : fn.name ≠ "runtime.NumGoroutine" := by simpa using h2
  cases hb : fn.body with
  | none => simp [hb] at h3
  | some c => simp [callFunc, h1, h2', hb]

theorem ok_call {g : Nat} {iso : Bool} {ys : List A} (hc : CallOk P dp cf) (hen : Enter P dp) (hm : mR P dp o.op (.call g iso ys) = true) (hs : Sim dp F G w S) (hf : Fr dp F G w a fr)
    (he : callR cf g iso (avs fr ys) S = some (d, S')) : OpOk P dp F G w S a o d S' := by
  simp only [mR] at hm
  split at hm
  · rename_i c ho
    simp only [Bool.and_eq_true] at hm
    obtain ⟨h1, h2⟩ := hm
    split at h1
    · rename_i f hcal
      unfold mF at h1
      split at h1
      · rename_i x hx
        simp only [beq_iff_eq] at h1
        subst h1
        intro next Q hn
        have hrun : (execOp a.eval o).run P w = .ok (.enter x.real (c.args.map a.eval)) w := by
          simp only [execOp, ho, resolve, hcal, Act.eval, Deferred.ofValue, Sem.run_bind, Sem.run_pure, Result.andThen, invoke, Array.append_empty, Array.empty_append, run_enter hen hx]
        simp only [Oper.wp, hrun, Oper.upon]
        exact callR_ok hc hx he hs (hf.argsA h2) _ fun v w' F' G' k1 k2 k3 => hn v w' F' G' k1 k2 k3
      · cases h1
    · cases h1
  · cases hm

theorem RelA.append {vs us : Array Value} {xs ys : List D} (h1 : RelA dp F G w vs xs) (h2 : RelA dp F G w us ys) : RelA dp F G w (vs ++ us) (xs ++ ys) := by
  refine ⟨by simp [h1.1, h2.1], fun j v d hv hd => ?_⟩
  by_cases hj : j < xs.length
  · rw [List.getElem?_append_left hj] at hd
    rw [Array.getElem?_append_left (by rw [h1.1]; exact hj)] at hv
    exact h1.2 j v d hv hd
  · rw [List.getElem?_append_right (by omega)] at hd
    rw [Array.getElem?_append_right (by rw [h1.1]; omega), h1.1] at hv
    exact h2.2 _ v d hv hd

theorem ok_calld {x : A} {g : Nat} {cs : List D} {iso : Bool} {ys : List A} (hc : CallOk P dp cf) (hen : Enter P dp) (hm : mR P dp o.op (.calld x iso ys) = true) (hs : Sim dp F G w S) (hf : Fr dp F G w a fr)
    (hx : av fr x = .fn g cs) (he : callR cf g iso (avs fr ys ++ cs) S = some (d, S')) : OpOk P dp F G w S a o d S' := by
  simp only [mR] at hm
  split at hm
  · rename_i c ho
    simp only [Bool.and_eq_true] at hm
    obtain ⟨h1, h2⟩ := hm
    split at h1
    · rename_i xo hcal
      have r1 := hf.eval h1
      rw [hx] at r1
      generalize hv1 : a.eval xo = v1 at r1
      cases r1 with
      | fn _ f hg vs _ hl h =>
        intro next Q hn
        have hrun : (execOp a.eval o).run P w = .ok (.enter f.real (c.args.map a.eval ++ vs)) w := by
          simp only [execOp, ho, resolve, hcal, hv1, Deferred.ofValue, Sem.run_bind, Sem.run_pure, Result.andThen, invoke, Array.empty_append, run_enter hen hg]
        simp only [Oper.wp, hrun, Oper.upon]
        exact callR_ok hc hg he hs ((hf.argsA h2).append ⟨hl, h⟩) _ fun v w' F' G' k1 k2 k3 => hn v w' F' G' k1 k2 k3
    · cases h1
  · cases hm

theorem map_pair {α β : Type} {x : Option α} {f : α → β × Store} {r : β × Store} (h : x.map f = some r) : ∃ y, x = some y ∧ f y = r := by
  cases x with
  | none => cases h
  | some y => exact ⟨y, rfl, by simpa using h⟩

theorem ok_R (hc : CallOk P dp cf) (hen : Enter P dp) {r : R} (hm : mR P dp o.op r = true) (hs : Sim dp F G w S) (hf : Fr dp F G w a fr) (he : evR cf fr S r = some (d, S')) : OpOk P dp F G w S a o d S' := by
  cases r with
  | mv x =>
    simp only [evR, Option.some.injEq, Prod.mk.injEq] at he
    obtain ⟨rfl, rfl⟩ := he
    exact (pur_mv hm hf).ok hs
  | nilck x =>
    simp only [evR] at he
    split at he
    · rename_i i p heq
      simp only [Option.some.injEq, Prod.mk.injEq] at he
      obtain ⟨rfl, rfl⟩ := he
      have := pur_nilck hm hf (by rw [heq])
      rw [heq] at this
      exact this.ok hs
    · rename_i i p heq
      simp only [Option.some.injEq, Prod.mk.injEq] at he
      obtain ⟨rfl, rfl⟩ := he
      have := pur_nilck hm hf (by rw [heq])
      rw [heq] at this
      exact this.ok hs
    · rename_i i p heq
      simp only [Option.some.injEq, Prod.mk.injEq] at he
      obtain ⟨rfl, rfl⟩ := he
      have := pur_nilck hm hf (by rw [heq])
      rw [heq] at this
      exact this.ok hs
    · cases he
  | pick c x y =>
    simp only [evR] at he
    split at he
    · rename_i t heq
      simp only [Option.some.injEq, Prod.mk.injEq] at he
      obtain ⟨rfl, rfl⟩ := he
      exact (pur_pick hm hf heq).ok hs
    · cases he
  | alloc z =>
    simp only [evR, Option.some.injEq, Prod.mk.injEq] at he
    obtain ⟨rfl, rfl⟩ := he
    exact ok_alloc hm hs
  | box k g x =>
    obtain ⟨cs, h1, h2⟩ := map_pair he
    simp only [Prod.mk.injEq] at h2
    obtain ⟨rfl, rfl⟩ := h2
    exact ok_box hm hs hf h1
  | bld z ps =>
    obtain ⟨cs, h1, h2⟩ := map_pair he
    simp only [Prod.mk.injEq] at h2
    obtain ⟨rfl, rfl⟩ := h2
    exact (pur_bld hm hf h1).ok hs
  | bsl k g own xs =>
    obtain ⟨l, h1, h2⟩ := map_pair he
    have := ok_bsl hm hs hf h1
    unfold bslRes at this
    rw [h2] at this
    exact this
  | bsa k g xs =>
    obtain ⟨l, h1, h2⟩ := map_pair he
    simp only [Prod.mk.injEq] at h2
    obtain ⟨rfl, rfl⟩ := h2
    exact ok_bsa hm hs hf h1
  | ld k g x =>
    obtain ⟨l, h1, h2⟩ := map_pair he
    simp only [Prod.mk.injEq] at h2
    obtain ⟨rfl, rfl⟩ := h2
    exact (pur_ld hm hs hf h1).ok hs
  | st k g x v =>
    obtain ⟨l, h1, h2⟩ := map_pair he
    simp only [Prod.mk.injEq] at h2
    obtain ⟨rfl, rfl⟩ := h2
    unfold stD at h1
    split at h1
    · rename_i id p heq
      split at h1
      · rename_i cs hsg
        split at h1
        · rename_i ds hds
          split at h1
          · rename_i hle
            injection h1 with h1
            subst h1
            exact ok_st hm hs hf heq hsg hds hle
          · cases h1
        · cases h1
      · cases h1
    · cases h1
  | bin op q x y =>
    obtain ⟨l, h1, h2⟩ := map_pair he
    simp only [Prod.mk.injEq] at h2
    obtain ⟨rfl, rfl⟩ := h2
    exact (pur_bin hm hf h1).ok hs
  | un op x =>
    obtain ⟨l, h1, h2⟩ := map_pair he
    simp only [Prod.mk.injEq] at h2
    obtain ⟨rfl, rfl⟩ := h2
    exact (pur_un hm hf h1).ok hs
  | conv k x =>
    simp only [evR] at he
    split at he
    · rename_i k' n heq
      simp only [Option.some.injEq, Prod.mk.injEq] at he
      obtain ⟨rfl, rfl⟩ := he
      exact (pur_conv hm hf heq).ok hs
    · cases he
  | mkfn g cs =>
    simp only [evR, Option.some.injEq, Prod.mk.injEq] at he
    obtain ⟨rfl, rfl⟩ := he
    exact (pur_mkfn hm hf).ok hs
  | mkmap =>
    simp only [evR, Option.some.injEq, Prod.mk.injEq] at he
    obtain ⟨rfl, rfl⟩ := he
    exact ok_mkmap hm hs
  | mksl k arr z n =>
    simp only [evR] at he
    split at he
    · rename_i k' m heq
      split at he
      · rename_i hcond
        have := ok_mksl hm hs hf heq hcond.1 hcond.2
        have e : mkslRes k arr z m.toNat S = (d, S') := by
          apply Option.some.inj
          rw [← he]
          unfold mkslRes
          by_cases h0 : m.toNat = 0
          · have : m = 0 := by omega
            subst this
            cases arr <;> simp
          · have hm0 : ¬ m = 0 := by omega
            cases arr <;> simp [h0, hm0]
        rw [e] at this
        exact this
      · cases he
    · cases he
  | slc k x lo hi =>
    obtain ⟨l, h1, h2⟩ := map_pair he
    simp only [Prod.mk.injEq] at h2
    obtain ⟨rfl, rfl⟩ := h2
    exact (pur_slc hm hf h1).ok hs
  | slcs x lo hi =>
    obtain ⟨l, h1, h2⟩ := map_pair he
    simp only [Prod.mk.injEq] at h2
    obtain ⟨rfl, rfl⟩ := h2
    exact (pur_slcs hm hf h1).ok hs
  | fa off x =>
    simp only [evR] at he
    split at he
    · rename_i id p heq
      simp only [Option.some.injEq, Prod.mk.injEq] at he
      obtain ⟨rfl, rfl⟩ := he
      exact (pur_fa hm hf (by rw [heq])).ok hs
    · rename_i cs p heq
      simp only [Option.some.injEq, Prod.mk.injEq] at he
      obtain ⟨rfl, rfl⟩ := he
      exact (pur_fa hm hf (by rw [heq])).ok hs
    · cases he
  | fld off k g x =>
    simp only [evR] at he
    split at he
    · rename_i cs heq
      obtain ⟨l, h1, h2⟩ := map_pair he
      simp only [Prod.mk.injEq] at h2
      obtain ⟨rfl, rfl⟩ := h2
      exact (pur_fld hm hf heq h1).ok hs
    · cases he
  | ia k x i =>
    obtain ⟨l, h1, h2⟩ := map_pair he
    simp only [Prod.mk.injEq] at h2
    obtain ⟨rfl, rfl⟩ := h2
    exact (pur_ia hm hf h1).ok hs
  | iaa n k x i =>
    simp only [evR] at he
    split at he
    · rename_i id p k' m h1 h2
      split at he
      · rename_i hcond
        simp only [Option.some.injEq, Prod.mk.injEq] at he
        obtain ⟨rfl, rfl⟩ := he
        exact (pur_iaa hm hf h1 h2 hcond.1 hcond.2).ok hs
      · cases he
    · cases he
  | ixs x i =>
    simp only [evR] at he
    split at he
    · rename_i l k' m h1 h2
      split at he
      · rename_i hcond
        obtain ⟨c, h3, h4⟩ := map_pair he
        simp only [Prod.mk.injEq] at h4
        obtain ⟨rfl, rfl⟩ := h4
        exact (pur_ixs hm hf h1 h2 hcond h3).ok hs
      · cases he
    · cases he
  | lk kk ok z m key =>
    simp only [evR] at he
    split at he
    · rename_i hk
      split at he
      · rename_i heq
        simp only [Option.some.injEq, Prod.mk.injEq] at he
        obtain ⟨rfl, rfl⟩ := he
        exact (pur_lk (r := none) hm hs hf hk (by rw [heq]; rfl)).ok hs
      · rename_i id heq
        split at he
        · rename_i es hsg
          split at he
          · rename_i v hv
            simp only [Option.some.injEq, Prod.mk.injEq] at he
            obtain ⟨rfl, rfl⟩ := he
            exact (pur_lk (r := some v) hm hs hf hk (by rw [heq]; simp only [lkIn, hsg, hv])).ok hs
          · rename_i hv
            simp only [Option.some.injEq, Prod.mk.injEq] at he
            obtain ⟨rfl, rfl⟩ := he
            exact (pur_lk (r := none) hm hs hf hk (by rw [heq]; simp only [lkIn, hsg, hv])).ok hs
          · cases he
        · cases he
      · cases he
    · cases he
  | mu kk m key v =>
    simp only [evR] at he
    split at he
    · rename_i hk
      split at he
      · rename_i id heq
        split at he
        · rename_i es hsg
          obtain ⟨es', h1, h2⟩ := map_pair he
          simp only [Prod.mk.injEq] at h2
          obtain ⟨rfl, rfl⟩ := h2
          exact ok_mu hm hs hf hk heq hsg h1
        · cases he
      · cases he
    · cases he
  | ment kk z m key =>
    simp only [evR] at he
    split at he
    · rename_i hk
      split at he
      · rename_i id heq
        split at he
        · rename_i es hsg
          split at he
          · rename_i j hp
            refine ok_ment (r := (d, S')) hm hs hf hk heq hsg hp ?_
            simp only [mentRes]
            exact he
          · rename_i hp
            refine ok_ment (r := (d, S')) hm hs hf hk heq hsg hp ?_
            simp only [mentRes]
            exact he
          · cases he
        · cases he
      · cases he
    · cases he
  | est m j v =>
    simp only [evR] at he
    split at he
    · rename_i id k' n h1 h2
      split at he
      · rename_i es hsg
        split at he
        · rename_i hcond
          simp only [Option.some.injEq, Prod.mk.injEq] at he
          obtain ⟨rfl, rfl⟩ := he
          exact ok_est hm hs hf h1 h2 hsg hcond.1 hcond.2
        · cases he
      · cases he
    · cases he
  | ext x j =>
    simp only [evR] at he
    split at he
    · rename_i cs heq
      obtain ⟨l, h1, h2⟩ := map_pair he
      simp only [Prod.mk.injEq] at h2
      obtain ⟨rfl, rfl⟩ := h2
      exact (pur_ext hm hf heq h1).ok hs
    · cases he
  | len str x =>
    simp only [evR] at he
    split at he
    · rename_i k' nl xs ow heq
      simp only [Option.some.injEq, Prod.mk.injEq] at he
      obtain ⟨rfl, rfl⟩ := he
      exact (pur_len hm hf (by rw [heq])).ok hs
    · rename_i k' id p n heq
      simp only [Option.some.injEq, Prod.mk.injEq] at he
      obtain ⟨rfl, rfl⟩ := he
      exact (pur_len hm hf (by rw [heq])).ok hs
    · rename_i l heq
      simp only [Option.some.injEq, Prod.mk.injEq] at he
      obtain ⟨rfl, rfl⟩ := he
      exact (pur_len hm hf (by rw [heq])).ok hs
    · cases he
  | app k arr x y => exact ok_app (r := (d, S')) hm hs hf he
  | mx x y =>
    simp only [evR] at he
    split at he
    · rename_i k p k' q h1 h2
      split at he
      · rename_i hk
        subst hk
        simp only [Option.some.injEq, Prod.mk.injEq] at he
        obtain ⟨rfl, rfl⟩ := he
        exact (pur_mx hm hf h1 h2).ok hs
      · cases he
    · cases he
  | mn x y =>
    simp only [evR] at he
    split at he
    · rename_i k p k' q h1 h2
      split at he
      · rename_i hk
        subst hk
        simp only [Option.some.injEq, Prod.mk.injEq] at he
        obtain ⟨rfl, rfl⟩ := he
        exact (pur_mn hm hf h1 h2).ok hs
      · cases he
    · cases he
  | clr k z x =>
    simp only [evR] at he
    split at he
    · rename_i k' id p n heq
      split at he
      · rename_i hcond
        obtain ⟨rfl, hz⟩ := hcond
        split at he
        · rename_i cs hsg
          split at he
          · rename_i hle
            simp only [Option.some.injEq, Prod.mk.injEq] at he
            obtain ⟨rfl, rfl⟩ := he
            exact ok_clr hm hs hf (.inl ⟨id, p, n, cs, heq, hz, hsg, hle, rfl⟩)
          · cases he
        · cases he
      · cases he
    · rename_i k' nl ow heq
      simp only [Option.some.injEq, Prod.mk.injEq] at he
      obtain ⟨rfl, rfl⟩ := he
      exact ok_clr hm hs hf (.inr ⟨k', nl, ow, heq, rfl⟩)
    · cases he
  | call g iso args => exact ok_call hc hen hm hs hf he
  | calld f iso args =>
    simp only [evR] at he
    split at he
    · rename_i g cs heq
      exact ok_calld hc hen hm hs hf heq he
    · cases he
  | cmps x y =>
    simp only [evR] at he
    split at he
    · rename_i l m h1 h2
      simp only [Option.some.injEq, Prod.mk.injEq] at he
      obtain ⟨rfl, rfl⟩ := he
      exact (ok_cmps hm hf h1 h2).ok hs
    · cases he

end

end Go.Proofs.YtjniafcnjbbomaaGreatDoor.DE

namespace Go.Proofs.YtjniafcnjbbomaaGreatDoor.DE
open Go

/-! ## The check -/

def dstI : I → Option Nat
  | .op dst _ _ => dst
  | .fz t => some t
  | .ck _ _ => none

/-- An item read as an operation. -/
def asOp : I → Option (Option Nat × Option (Nat × Bool) × R)
  | .op dst gd r => some (dst, gd, r)
  | .ck t r => some (some t, none, r)
  | .fz _ => none

def isX : I → Bool
  | .op _ _ r => match kdR r with | .x => true | _ => false
  | _ => false

def kdX (r : R) : Bool := match kdR r with | .x => true | _ => false
def kdP (r : R) : Bool := match kdR r with | .p => true | _ => false

def nX : List (Nat × I) → Nat
  | [] => 0
  | (_, i) :: l => (if isX i then 1 else 0) + nX l

def xsOf : List (Nat × I) → List Nat
  | [] => []
  | (j, i) :: l => if isX i then j :: xsOf l else xsOf l

def ann : Nat → List (Nat × I) → List (Nat × Nat × I)
  | _, [] => []
  | n, (j, i) :: l => (n, j, i) :: ann ((if isX i then 1 else 0) + n) l

def noDst (u : Nat) (l : List (Nat × I)) : Bool := l.all fun q => dstI q.2 != some u

/-- No item writes what an earlier one has written, or has been asked about. -/
def uniq : List (Nat × I) → Bool
  | [] => true
  | (_, i) :: l => (match i with | .op (some t) _ _ => noDst t l | .ck t _ => noDst t l | _ => true) && uniq l

def bbit (B : List Nat) (q j : Nat) : Bool := (B.getD j 0).testBit q

def ndB : List Nat → Bool
  | [] => true
  | x :: l => l.all (fun y => y != x) && ndB l

def chainB (B : List Nat) : List Nat → Bool
  | x :: y :: l => bbit B x y && chainB B (y :: l)
  | _ => true

def usO : I → List Nat
  | .op _ gd r => usG gd ++ usR r
  | .fz _ => []
  | .ck _ r => usR r

/-- What the item looks at has been written by what stands before it, or will be written by what stands behind it. -/
def useOk (ops : List Oper) (B : List Nat) (pre : List (Nat × I)) (j : Nat) (i : I) (post : List (Nat × I)) : Bool :=
  (usO i).all fun u => (noDst u ((j, i) :: post) && ops.zipIdx.all fun q => q.1.dst != some u || bbit B q.2 j) || (noDst u pre && ops.zipIdx.all fun q => q.1.dst != some u || bbit B j q.2)

def usesOk (ops : List Oper) (B : List Nat) : List (Nat × I) → List (Nat × I) → Bool
  | _, [] => true
  | pre, (j, i) :: l => useOk ops B pre j i l && usesOk ops B (pre ++ [(j, i)]) l

def itemOk (P : Program) (dp : Nat → Option Fn) (ops : List Oper) (j : Nat) (i : I) : Bool := match ops[j]? with
  | some o => match asOp i with
    | some (dst, gd, r) => mI P dp ops o (.op dst gd r)
    | none => false
  | none => false

def ckOk : I → Bool
  | .ck _ r => !kdX r
  | _ => true

def covOk (B xs : List Nat) (A : List (Nat × Nat × I)) (pf : Nat) (j : Nat) : Bool :=
  A.any (fun q => q.2.1 == j && (match q.2.2 with | .op _ _ r => kdP r || kdX r | _ => false)) ||
  (List.range (xs.length + 1)).all fun k => xs.zipIdx.any (fun x => (bbit B x.1 j && !decide (x.2 < k) && x.2 != pf) || (bbit B j x.1 && !decide (k ≤ x.2))) ||
    A.any fun q => q.1 == k && q.2.1 == j && !isX q.2.2

def edgesOk (ops : List Oper) : Bool := ops.zipIdx.all fun q => q.1.after.toList.all fun e => !Region.binds .any e || decide (e.on < q.2)

/-- The first place in the row of the changes behind which the order is open. -/
def brk (B : List Nat) : Nat → List Nat → Option Nat
  | n, x :: y :: l => if bbit B x y then brk B (n + 1) (y :: l) else some (n + 1)
  | _, _ => none

/-- A new variable whose time is open: its number, its temporary. -/
def flT : I → Option Nat
  | .op (some t) none (.alloc _) => some t
  | _ => none

/-- The change at place p (operation f, temporary t) may come earlier. -/
def flOk (ops : List Oper) (B xs : List Nat) (A : List (Nat × Nat × I)) (p f t : Nat) : Bool :=
  decide (p < xs.length) && (xs.getD p 0 == f) && (match xs[p + 1]? with | some y => bbit B f y | none => false) &&
  A.any (fun q => q.1 == p && q.2.1 == f && flT q.2.2 == some t) &&
  ops.zipIdx.all (fun q => q.2 == f || q.1.dst != some t) &&
  A.all fun q => q.2.1 == f || !(usO q.2.2).contains t || (isX q.2.2 && decide (p < q.1))

def flFind (A : List (Nat × Nat × I)) (p : Nat) : Option (Nat × Nat) := match A.find? (fun q => q.1 == p && isX q.2.2) with
  | some q => match flT q.2.2 with
    | some t => some (q.2.1, t)
    | none => none
  | none => none

def mDr (P : Program) (dp : Nat → Option Fn) (ops : List Oper) (is : List (Nat × I)) : Bool :=
  let B := befores ops []
  let A := ann 0 is
  let xs := xsOf is
  is.all (fun q => itemOk P dp ops q.1 q.2 && ckOk q.2) && uniq is && usesOk ops B [] is && edgesOk ops && ndB xs && (match brk B 0 xs with
    | none => true
    | some p => chainB B (xs.eraseIdx p) && (match flFind A p with | some (f, t) => flOk ops B xs A p f t | none => false)) && (List.range ops.length).all fun j => covOk B xs A ((brk B 0 xs).getD xs.length) j

theorem brk_none {B : List Nat} : ∀ {l : List Nat} {n : Nat}, brk B n l = none → chainB B l = true
  | [], _, _ => rfl
  | [_], _, _ => rfl
  | x :: y :: l, n, h => by
    simp only [brk] at h
    split at h
    · rename_i hb
      simp only [chainB, hb, Bool.true_and]
      exact brk_none h
    · cases h

/-! ## The evaluator: what an operation looks at -/

section
variable {cf : CallF} {fr fr' : List D} {S S' : Store}

theorem av_congr {x : A} (h : ∀ t ∈ usA x, fget fr t = fget fr' t) : av fr x = av fr' x := by
  cases x with
  | t n => exact h n (by simp [usA])
  | c d => rfl

theorem avo_congr {x : Option A} (h : ∀ t ∈ usAo x, fget fr t = fget fr' t) : avo fr x = avo fr' x := by
  cases x with
  | none => rfl
  | some x => simp only [avo, av_congr (x := x) h]

theorem avs_congr : ∀ {xs : List A}, (∀ t ∈ usAs xs, fget fr t = fget fr' t) → avs fr xs = avs fr' xs
  | [], _ => rfl
  | x :: xs, h => by
    simp only [usAs, List.mem_append] at h
    simp only [avs]
    rw [av_congr fun t ht => h t (.inl ht), avs_congr fun t ht => h t (.inr ht)]

theorem bldD_congr : ∀ {ps : List (Nat × Nat × Bool × A)} {z : List D}, (∀ t ∈ usPs ps, fget fr t = fget fr' t) → bldD fr z ps = bldD fr' z ps
  | [], _, _ => rfl
  | (o, k, g, x) :: ps, z, h => by
    simp only [usPs, List.mem_append] at h
    simp only [bldD]
    rw [av_congr fun t ht => h t (.inl ht)]
    split
    · split
      · exact bldD_congr fun t ht => h t (.inr ht)
      · rfl
    · rfl

theorem cellsAll_congr {k : Nat} {g : Bool} : ∀ {xs : List A}, (∀ t ∈ usAs xs, fget fr t = fget fr' t) → cellsAll fr k g xs = cellsAll fr' k g xs
  | [], _ => rfl
  | x :: xs, h => by
    simp only [usAs, List.mem_append] at h
    simp only [cellsAll]
    rw [av_congr fun t ht => h t (.inl ht), cellsAll_congr fun t ht => h t (.inr ht)]

theorem evR_congr {r : R} (h : ∀ t ∈ usR r, fget fr t = fget fr' t) : evR cf fr S r = evR cf fr' S r := by
  cases r <;> simp only [usR, List.mem_append] at h <;> simp only [evR]
  case mv x => rw [av_congr h]
  case nilck x => rw [av_congr h]
  case pick c a b => rw [av_congr fun t ht => h t (.inl ht), av_congr (x := a) fun t ht => h t (.inr (.inl ht)), av_congr (x := b) fun t ht => h t (.inr (.inr ht))]
  case box k g x => rw [av_congr h]
  case bld z ps => rw [bldD_congr h]
  case bsl k g own xs => rw [cellsAll_congr h]
  case bsa k g xs => rw [cellsAll_congr h]
  case ld k g x => rw [av_congr h]
  case st k g a v => rw [av_congr fun t ht => h t (.inl ht), av_congr (x := v) fun t ht => h t (.inr ht)]
  case bin op q x y => rw [av_congr fun t ht => h t (.inl ht), av_congr (x := y) fun t ht => h t (.inr ht)]
  case un op x => rw [av_congr h]
  case conv k x => rw [av_congr h]
  case mkfn g cs => rw [avs_congr h]
  case mksl k arr z n => rw [av_congr h]
  case slc k x lo hi => rw [av_congr fun t ht => h t (.inl ht), avo_congr (x := lo) fun t ht => h t (.inr (.inl ht)), avo_congr (x := hi) fun t ht => h t (.inr (.inr ht))]
  case slcs x lo hi => rw [av_congr fun t ht => h t (.inl ht), avo_congr (x := lo) fun t ht => h t (.inr (.inl ht)), avo_congr (x := hi) fun t ht => h t (.inr (.inr ht))]
  case fa o x => rw [av_congr h]
  case fld o k g x => rw [av_congr h]
  case ia k x i => rw [av_congr fun t ht => h t (.inl ht), av_congr (x := i) fun t ht => h t (.inr ht)]
  case iaa n k x i => rw [av_congr fun t ht => h t (.inl ht), av_congr (x := i) fun t ht => h t (.inr ht)]
  case ixs x i => rw [av_congr fun t ht => h t (.inl ht), av_congr (x := i) fun t ht => h t (.inr ht)]
  case lk kk ok z m key => rw [av_congr fun t ht => h t (.inl ht), av_congr (x := key) fun t ht => h t (.inr ht)]
  case mu kk m key v => rw [av_congr fun t ht => h t (.inl ht), av_congr (x := key) fun t ht => h t (.inr (.inl ht)), av_congr (x := v) fun t ht => h t (.inr (.inr ht))]
  case ment kk z m key => rw [av_congr fun t ht => h t (.inl ht), av_congr (x := key) fun t ht => h t (.inr ht)]
  case est m j v => rw [av_congr fun t ht => h t (.inl ht), av_congr (x := j) fun t ht => h t (.inr (.inl ht)), av_congr (x := v) fun t ht => h t (.inr (.inr ht))]
  case ext x j => rw [av_congr h]
  case len str x => rw [av_congr h]
  case app k arr x y => rw [av_congr fun t ht => h t (.inl ht), av_congr (x := y) fun t ht => h t (.inr ht)]
  case mx x y => rw [av_congr fun t ht => h t (.inl ht), av_congr (x := y) fun t ht => h t (.inr ht)]
  case mn x y => rw [av_congr fun t ht => h t (.inl ht), av_congr (x := y) fun t ht => h t (.inr ht)]
  case clr k z x => rw [av_congr h]
  case call g iso args => rw [avs_congr h]
  case calld f iso args => rw [av_congr fun t ht => h t (.inl ht), avs_congr fun t ht => h t (.inr ht)]
  case cmps x y => rw [av_congr fun t ht => h t (.inl ht), av_congr (x := y) fun t ht => h t (.inr ht)]

theorem wanted_congr {gd : Option (Nat × Bool)} (h : ∀ t ∈ usG gd, fget fr t = fget fr' t) : DE.wanted fr gd = DE.wanted fr' gd := by
  cases gd with
  | none => rfl
  | some p =>
    obtain ⟨t, b⟩ := p
    simp only [DE.wanted]
    rw [h t (by simp [usG])]

theorem map_snd {α β : Type} {x : Option α} {f : α → β} {T : Store} {r : β × Store} (h : (x.map fun y => (f y, T)) = some r) : r.2 = T := by
  cases x with
  | none => cases h
  | some y => simp at h; rw [← h]

/-- An operation that is no writing leaves the store. -/
theorem evR_same {r : R} {d : D} (hk : kdX r = false) (h : evR cf fr S r = some (d, S')) : S' = S := by
  cases r <;> simp only [kdX, kdR] at hk <;> (try (cases hk; done)) <;> simp only [evR] at h
  case mv x => injection h with h; injection h with _ h; exact h.symm
  case nilck x => split at h <;> first | (injection h with h; injection h with _ h; exact h.symm) | cases h
  case pick c a b => split at h <;> first | (injection h with h; injection h with _ h; exact h.symm) | cases h
  case bld z ps => exact map_snd h
  case bsl k g own xs =>
    cases hc : cellsAll fr k g xs with
    | none => simp [hc] at h
    | some l =>
      have hl := cellsAll_length hc
      simp only [hc, Option.map_some, Option.some.injEq] at h
      cases own with
      | false => simp at h; exact h.2.symm
      | true =>
        cases xs with
        | nil =>
          have : l = [] := List.eq_nil_of_length_eq_zero (by simpa using hl)
          subst this
          simp at h; exact h.2.symm
        | cons x xs => simp at hk
  case ld k g x => exact map_snd h
  case bin op q x y => exact map_snd h
  case un op x => exact map_snd h
  case conv k x => split at h <;> first | (injection h with h; injection h with _ h; exact h.symm) | cases h
  case mkfn g cs => injection h with h; injection h with _ h; exact h.symm
  case slc k x lo hi => exact map_snd h
  case slcs x lo hi => exact map_snd h
  case fa o x => split at h <;> first | (injection h with h; injection h with _ h; exact h.symm) | cases h
  case fld o k g x =>
    split at h
    · exact map_snd h
    · cases h
  case ia k x i => exact map_snd h
  case iaa n k x i =>
    split at h
    · split at h
      · injection h with h; injection h with _ h; exact h.symm
      · cases h
    · cases h
  case ixs x i =>
    split at h
    · split at h
      · exact map_snd h
      · cases h
    · cases h
  case lk kk ok z m key =>
    split at h
    · split at h
      · injection h with h; injection h with _ h; exact h.symm
      · split at h
        · split at h <;> first | (injection h with h; injection h with _ h; exact h.symm) | cases h
        · cases h
      · cases h
    · cases h
  case ext x j =>
    split at h
    · exact map_snd h
    · cases h
  case len str x => split at h <;> first | (injection h with h; injection h with _ h; exact h.symm) | cases h
  case mx x y =>
    split at h
    · split at h
      · injection h with h; injection h with _ h; exact h.symm
      · cases h
    · cases h
  case mn x y =>
    split at h
    · split at h
      · injection h with h; injection h with _ h; exact h.symm
      · cases h
    · cases h
  case call g iso args =>
    cases iso with
    | false => simp at hk
    | true => simp only [callR, if_true] at h; exact map_snd h
  case calld f iso args =>
    cases iso with
    | false => simp at hk
    | true =>
      split at h
      · simp only [callR, if_true] at h; exact map_snd h
      · cases h
  case cmps x y => split at h <;> first | (injection h with h; injection h with _ h; exact h.symm) | cases h

theorem map_any {α β : Type} {x : Option α} {f : α → β} {T T' : Store} {d : β} (h : (x.map fun y => (f y, T)) = some (d, T)) : (x.map fun y => (f y, T')) = some (d, T') := by
  cases x with
  | none => cases h
  | some y => simp at h ⊢; exact h

/-- An operation that has nothing to do with the store says the same at each. -/
theorem evR_any {r : R} {d : D} (hk : kdP r = true) (h : evR cf fr S r = some (d, S)) (T : Store) : evR cf fr T r = some (d, T) := by
  cases r <;> simp only [kdP, kdR] at hk <;> (try (cases hk; done)) <;> simp only [evR] at h ⊢
  case mv x => injection h with h; injection h with h _; rw [h]
  case nilck x => split at h <;> first | (injection h with h; injection h with h _; rw [← h]) | cases h
  case pick c a b => split at h <;> first | (injection h with h; injection h with h _; rw [← h]) | cases h
  case bld z ps => exact map_any h
  case bsl k g own xs =>
    cases hc : cellsAll fr k g xs with
    | none => simp [hc] at h
    | some l =>
      have hl := cellsAll_length hc
      simp only [hc, Option.map_some, Option.some.injEq] at h ⊢
      cases own with
      | false => simp at h ⊢; exact h
      | true =>
        cases xs with
        | nil =>
          have : l = [] := List.eq_nil_of_length_eq_zero (by simpa using hl)
          subst this
          simp at h ⊢; exact h
        | cons x xs => simp at hk
  case bin op q x y => exact map_any h
  case un op x => exact map_any h
  case conv k x => split at h <;> first | (injection h with h; injection h with h _; rw [← h]) | cases h
  case mkfn g cs => injection h with h; injection h with h _; rw [h]
  case slc k x lo hi => exact map_any h
  case slcs x lo hi => exact map_any h
  case fa o x => split at h <;> first | (injection h with h; injection h with h _; rw [← h]) | cases h
  case fld o k g x =>
    split at h
    · exact map_any h
    · cases h
  case ia k x i => exact map_any h
  case iaa n k x i =>
    split at h
    · split at h
      · rename_i hc
        rw [if_pos hc]
        injection h with h; injection h with h _; rw [h]
      · cases h
    · cases h
  case ixs x i =>
    split at h
    · split at h
      · rename_i hc
        rw [if_pos hc]
        exact map_any h
      · cases h
    · cases h
  case ext x j =>
    split at h
    · exact map_any h
    · cases h
  case len str x => split at h <;> first | (injection h with h; injection h with h _; rw [← h]) | cases h
  case mx x y =>
    split at h
    · split at h
      · rename_i hc
        rw [if_pos hc]
        injection h with h; injection h with h _; rw [h]
      · cases h
    · cases h
  case mn x y =>
    split at h
    · split at h
      · rename_i hc
        rw [if_pos hc]
        injection h with h; injection h with h _; rw [h]
      · cases h
    · cases h
  case call g iso args =>
    cases iso with
    | false => simp at hk
    | true => simp only [callR, if_true] at h ⊢; exact map_any h
  case calld f iso args =>
    cases iso with
    | false => simp at hk
    | true =>
      split at h
      · simp only [callR, if_true] at h ⊢; exact map_any h
      · cases h
  case cmps x y => split at h <;> first | (injection h with h; injection h with h _; rw [← h]) | cases h

end

end Go.Proofs.YtjniafcnjbbomaaGreatDoor.DE

namespace Go.Proofs.YtjniafcnjbbomaaGreatDoor.DE
open Go

/-! ## Equality reckoned -/

theorem oeq_eq {a b : Own} (h : oeq a b = true) : a = b := by
  cases a <;> cases b <;> simp_all [oeq]

mutual
theorem deq_eq : ∀ {x y : D}, deq x y = true → x = y
  | .top, y, h => by cases y <;> simp_all [deq]
  | .b x, y, h => by cases y <;> simp_all [deq]
  | .i k x, y, h => by cases y <;> simp_all [deq]
  | .s x, y, h => by cases y <;> simp_all [deq]
  | .sl k n xs o, y, h => by
    cases y <;> simp only [deq, Bool.and_eq_true, beq_iff_eq] at h <;> try (cases h; done)
    obtain ⟨⟨⟨rfl, rfl⟩, h1⟩, h2⟩ := h
    rw [oeq_eq h1, deqLL_eq h2]
  | .agg x, y, h => by
    cases y <;> simp only [deq] at h <;> try (cases h; done)
    rw [deqL_eq h]
  | .tup x, y, h => by
    cases y <;> simp only [deq] at h <;> try (cases h; done)
    rw [deqL_eq h]
  | .bx a b, y, h => by cases y <;> simp_all [deq]
  | .el x a, y, h => by
    cases y <;> simp only [deq, Bool.and_eq_true, beq_iff_eq] at h <;> try (cases h; done)
    rw [h.1, deqL_eq h.2]
  | .ar a b c d, y, h => by cases y <;> simp_all [deq]
  | .nilp, y, h => by cases y <;> simp_all [deq]
  | .nilm, y, h => by cases y <;> simp_all [deq]
  | .mp a, y, h => by cases y <;> simp_all [deq]
  | .fn a x, y, h => by
    cases y <;> simp only [deq, Bool.and_eq_true, beq_iff_eq] at h <;> try (cases h; done)
    rw [h.1, deqL_eq h.2]
theorem deqL_eq : ∀ {x y : List D}, deqL x y = true → x = y
  | [], [], _ => rfl
  | [], _ :: _, h => by simp [deqL] at h
  | _ :: _, [], h => by simp [deqL] at h
  | x :: l, y :: m, h => by
    simp only [deqL, Bool.and_eq_true] at h
    rw [deq_eq h.1, deqL_eq h.2]
theorem deqLL_eq : ∀ {x y : List (List D)}, deqLL x y = true → x = y
  | [], [], _ => rfl
  | [], _ :: _, h => by simp [deqLL] at h
  | _ :: _, [], h => by simp [deqLL] at h
  | x :: l, y :: m, h => by
    simp only [deqLL, Bool.and_eq_true] at h
    rw [deqL_eq h.1, deqLL_eq h.2]
end

section
variable {cf : CallF} {fr fr' : List D} {S S' : Store}

/-- What an item says at its place, and what is left of it in the last frame. -/
def Hold (cf : CallF) (frp fr' : List D) (S1 S2 : Store) (i : I) : Prop :=
  ∀ dst gd r, asOp i = some (dst, gd, r) → ∃ b, DE.wanted frp gd = some b ∧
    (b = true → ∃ d, evR cf frp S1 r = some (d, S2) ∧ ∀ t, dst = some t → fget fr' t = if t < fr'.length then d else .top) ∧
    (b = false → S2 = S1 ∧ ∀ t, dst = some t → fget fr' t = if t < fr'.length then .tup [] else .top)

theorem fget_fsetO (fr : List D) (dst : Option Nat) (d : D) (t : Nat) (h : dst ≠ some t) : fget (fsetO fr dst d) t = fget fr t := by
  cases dst with
  | none => rfl
  | some u =>
    simp only [fsetO, fget_fset]
    rw [if_neg (fun hh => h (by rw [hh.1]))]

theorem fget_fsetO_self (fr : List D) (t : Nat) (d : D) : fget (fsetO fr (some t) d) t = if t < fr.length then d else .top := by
  simp only [fsetO, fget_fset, true_and]
  by_cases h : t < fr.length
  · rw [if_pos h, if_pos h]
  · rw [if_neg h, if_neg h, fget_ge _ _ (by omega)]

theorem fsetO_length (fr : List D) (dst : Option Nat) (d : D) : (fsetO fr dst d).length = fr.length := by
  cases dst with
  | none => rfl
  | some t => exact fset_length _ _ _

theorem evI_frame {i : I} (hfz : asOp i ≠ none) (h : evI cf fr S i = some (fr', S')) : fr'.length = fr.length ∧ ∀ t, dstI i ≠ some t → fget fr' t = fget fr t := by
  cases i with
  | op dst gd r =>
    simp only [evI] at h
    split at h
    · cases hr : evR cf fr S r with
      | none => simp [hr] at h
      | some p =>
        simp only [hr, Option.map_some, Option.some.injEq, Prod.mk.injEq] at h
        obtain ⟨rfl, rfl⟩ := h
        exact ⟨fsetO_length _ _ _, fun t ht => fget_fsetO _ _ _ _ ht⟩
    · simp only [Option.some.injEq, Prod.mk.injEq] at h
      obtain ⟨rfl, rfl⟩ := h
      exact ⟨fsetO_length _ _ _, fun t ht => fget_fsetO _ _ _ _ ht⟩
    · cases h
  | fz t => simp [asOp] at hfz
  | ck t r =>
    simp only [evI] at h
    split at h
    · split at h
      · simp only [Option.some.injEq, Prod.mk.injEq] at h
        obtain ⟨rfl, rfl⟩ := h
        exact ⟨rfl, fun _ _ => rfl⟩
      · cases h
    · cases h

theorem evI_store {i : I} (hx : isX i = false) (hck : ckOk i = true) (hfz : asOp i ≠ none) (h : evI cf fr S i = some (fr', S')) : S' = S := by
  cases i with
  | op dst gd r =>
    simp only [evI] at h
    split at h
    · cases hr : evR cf fr S r with
      | none => simp [hr] at h
      | some p =>
        simp only [hr, Option.map_some, Option.some.injEq, Prod.mk.injEq] at h
        obtain ⟨rfl, rfl⟩ := h
        exact evR_same (d := p.1) (by simpa [isX, kdX] using hx) hr
    · simp only [Option.some.injEq, Prod.mk.injEq] at h
      exact h.2.symm
    · cases h
  | fz t => simp [asOp] at hfz
  | ck t r =>
    simp only [evI] at h
    split at h
    · split at h
      · simp only [Option.some.injEq, Prod.mk.injEq] at h
        exact h.2.symm
      · cases h
    · cases h

theorem noDst_get {u : Nat} {l : List (Nat × I)} (h : noDst u l = true) : ∀ q ∈ l, dstI q.2 ≠ some u := fun q hq => by
  simpa using List.all_eq_true.1 h q hq

/-- One item. -/
theorem evI_hold {i : I} {fr1 : List D} {S1 : Store} (hck : ckOk i = true) (h : evI cf fr S i = some (fr1, S1)) (hl : fr'.length = fr.length)
    (hd : ∀ t, (dstI i = some t ∨ ∃ r, i = .ck t r) → fget fr' t = fget fr1 t) : Hold cf fr fr' S S1 i := by
  intro dst gd r ha
  cases i with
  | op dst' gd' r' =>
    simp only [asOp, Option.some.injEq, Prod.mk.injEq] at ha
    obtain ⟨rfl, rfl, rfl⟩ := ha
    simp only [evI] at h
    split at h
    · rename_i hwt
      refine ⟨true, hwt, fun _ => ?_, fun h => (by cases h)⟩
      cases he : evR cf fr S r' with
      | none => simp [he] at h
      | some p =>
        simp only [he, Option.map_some, Option.some.injEq, Prod.mk.injEq] at h
        obtain ⟨rfl, rfl⟩ := h
        refine ⟨p.1, rfl, fun t ht => ?_⟩
        subst ht
        rw [hd t (.inl rfl), fget_fsetO_self, hl]
    · rename_i hwf
      simp only [Option.some.injEq, Prod.mk.injEq] at h
      obtain ⟨rfl, rfl⟩ := h
      refine ⟨false, hwf, fun h => (by cases h), fun _ => ⟨rfl, fun t ht => ?_⟩⟩
      subst ht
      rw [hd t (.inl rfl), fget_fsetO_self, hl]
    · cases h
  | fz t => simp [asOp] at ha
  | ck t r' =>
    simp only [asOp, Option.some.injEq, Prod.mk.injEq] at ha
    obtain ⟨rfl, rfl, rfl⟩ := ha
    refine ⟨true, rfl, fun _ => ?_, fun h => (by cases h)⟩
    simp only [evI] at h
    split at h
    · rename_i d T he
      split at h
      · rename_i hdq
        simp only [Option.some.injEq, Prod.mk.injEq] at h
        obtain ⟨rfl, rfl⟩ := h
        have hk : kdX r' = false := by simpa [ckOk] using hck
        have := evR_same (d := d) hk he
        subst this
        refine ⟨d, he, fun u hu => ?_⟩
        injection hu with hu; subst hu
        rw [hd t (.inr ⟨r', rfl⟩), deq_eq hdq, hl]
        by_cases hlt : t < fr.length
        · rw [if_pos hlt]
        · rw [if_neg hlt, fget_ge _ _ (by omega)]
      · cases h
    · cases h

theorem trace : ∀ (is : List (Nat × I)) {fr S fr' S'}, evIs cf fr S (snds is) = some (fr', S') → uniq is = true → (∀ q ∈ is, asOp q.2 ≠ none ∧ ckOk q.2 = true) →
    fr'.length = fr.length ∧ (∀ t, (∀ q ∈ is, dstI q.2 ≠ some t) → fget fr' t = fget fr t) ∧
    ∃ sto : Nat → Store, sto 0 = S ∧ sto (nX is) = S' ∧ ∀ pre j i post, is = pre ++ (j, i) :: post → ∃ frp, frp.length = fr.length ∧ (∀ u, noDst u pre = true → fget frp u = fget fr u) ∧
      (∀ u, noDst u ((j, i) :: post) = true → fget frp u = fget fr' u) ∧ Hold cf frp fr' (sto (nX pre)) (sto (nX pre + if isX i then 1 else 0)) i
  | [], fr, S, fr', S', h, _, _ => by
    simp only [snds, evIs, Option.some.injEq, Prod.mk.injEq] at h
    obtain ⟨rfl, rfl⟩ := h
    exact ⟨rfl, fun _ _ => rfl, fun _ => S, rfl, rfl, fun pre j i post h => by cases pre <;> cases h⟩
  | (j, i) :: is, fr, S, fr', S', h, hsep, hok => by
    simp only [snds, evIs] at h
    split at h
    · rename_i fr1 S1 he
      simp only [uniq, Bool.and_eq_true] at hsep
      obtain ⟨hs2, hs3⟩ := hsep
      obtain ⟨hfz, hck⟩ := hok (j, i) (by simp)
      obtain ⟨hl, hun, sto, e0, em, hhold⟩ := trace is h hs3 fun q hq => hok q (by simp [hq])
      obtain ⟨hl1, hf1⟩ := evI_frame hfz he
      have hlen : fr'.length = fr.length := hl.trans hl1
      have hunt : ∀ t, (∀ q ∈ (j, i) :: is, dstI q.2 ≠ some t) → fget fr' t = fget fr t := fun t ht =>
        (hun t fun q hq => ht q (by simp [hq])).trans (hf1 t (ht (j, i) (by simp)))
      have hhd : Hold cf fr fr' S S1 i := by
        refine evI_hold hck he hlen fun t ht => hun t ?_
        rcases ht with ht | ⟨r, rfl⟩
        · cases i with
          | op dst gd r =>
            simp only [dstI] at ht
            subst ht
            exact noDst_get hs2
          | fz u => simp [asOp] at hfz
          | ck u r => cases ht
        · exact noDst_get hs2
      have head : ∃ frp, frp.length = fr.length ∧ (∀ u, noDst u [] = true → fget frp u = fget fr u) ∧ (∀ u, noDst u ((j, i) :: is) = true → fget frp u = fget fr' u) ∧ Hold cf frp fr' S S1 i :=
        ⟨fr, rfl, fun _ _ => rfl, fun u hu => (hunt u (noDst_get hu)).symm, hhd⟩
      have later : ∀ pre j' i' post T1 T2, (∃ frp, frp.length = fr1.length ∧ (∀ u, noDst u pre = true → fget frp u = fget fr1 u) ∧ (∀ u, noDst u ((j', i') :: post) = true → fget frp u = fget fr' u) ∧ Hold cf frp fr' T1 T2 i') →
          ∃ frp, frp.length = fr.length ∧ (∀ u, noDst u ((j, i) :: pre) = true → fget frp u = fget fr u) ∧ (∀ u, noDst u ((j', i') :: post) = true → fget frp u = fget fr' u) ∧ Hold cf frp fr' T1 T2 i' := by
        rintro pre j' i' post T1 T2 ⟨frp, a1, a2, a3, a4⟩
        refine ⟨frp, a1.trans hl1, fun u hu => ?_, a3, a4⟩
        have hu' := noDst_get hu
        rw [a2 u (by simp only [noDst, List.all_cons, Bool.and_eq_true] at hu ⊢; exact hu.2)]
        exact hf1 u (hu' (j, i) (by simp))
      cases hx : isX i with
      | false =>
        have hst := evI_store hx hck hfz he
        subst hst
        refine ⟨hlen, hunt, sto, e0, by simp only [nX, hx]; simpa using em, fun pre j' i' post hp => ?_⟩
        cases pre with
        | nil =>
          simp only [List.nil_append, List.cons.injEq, Prod.mk.injEq] at hp
          obtain ⟨⟨rfl, rfl⟩, rfl⟩ := hp
          simp only [nX, hx, Bool.false_eq_true, if_false, Nat.add_zero, e0]
          exact head
        | cons q pre =>
          simp only [List.cons_append, List.cons.injEq] at hp
          obtain ⟨rfl, hp⟩ := hp
          simp only [nX, hx, Bool.false_eq_true, if_false, Nat.zero_add]
          exact later pre j' i' post _ _ (hhold pre j' i' post hp)
      | true =>
        refine ⟨hlen, hunt, fun n => match n with | 0 => S | n + 1 => sto n, rfl, by simp only [nX, hx, if_true]; rw [Nat.add_comm]; exact em, fun pre j' i' post hp => ?_⟩
        cases pre with
        | nil =>
          simp only [List.nil_append, List.cons.injEq, Prod.mk.injEq] at hp
          obtain ⟨⟨rfl, rfl⟩, rfl⟩ := hp
          simp only [nX, hx, if_true, Nat.zero_add, e0]
          exact head
        | cons q pre =>
          simp only [List.cons_append, List.cons.injEq] at hp
          obtain ⟨rfl, hp⟩ := hp
          have := later pre j' i' post _ _ (hhold pre j' i' post hp)
          simp only [nX, hx, if_true]
          rw [Nat.add_comm 1 (nX pre), Nat.add_right_comm]
          exact this
    · cases h

theorem usesOk_get {ops : List Oper} {B : List Nat} : ∀ {l pre : List (Nat × I)}, usesOk ops B pre l = true → ∀ p j i post, l = p ++ (j, i) :: post → useOk ops B (pre ++ p) j i post = true
  | [], _, _, p, j, i, post, h => by cases p <;> cases h
  | (j', i') :: l, pre, hu, p, j, i, post, h => by
    simp only [usesOk, Bool.and_eq_true] at hu
    cases p with
    | nil =>
      simp only [List.nil_append, List.cons.injEq, Prod.mk.injEq] at h
      obtain ⟨⟨rfl, rfl⟩, rfl⟩ := h
      simpa using hu.1
    | cons q p =>
      simp only [List.cons_append, List.cons.injEq] at h
      obtain ⟨rfl, h⟩ := h
      have := usesOk_get hu.2 p j i post h
      simpa using this

end

/-! ## What stands before what -/

inductive Bef (ops : List Oper) : Nat → Nat → Prop
  | edge {j : Nat} {o : Oper} {e : Edge} (ho : ops[j]? = some o) (he : e ∈ o.after.toList) (hb : Region.binds .any e = true) : Bef ops e.on j
  | step {q j : Nat} {o : Oper} {e : Edge} (ho : ops[j]? = some o) (he : e ∈ o.after.toList) (hb : Region.binds .any e = true) (h : Bef ops q e.on) : Bef ops q j

theorem fold_bit (acc : List Nat) : ∀ (l : List Edge) (s q : Nat), (l.foldl (fun s e => if Region.binds .any e then s ||| 2 ^ e.on ||| acc.getD e.on 0 else s) s).testBit q = true →
    s.testBit q = true ∨ ∃ e ∈ l, Region.binds .any e = true ∧ (q = e.on ∨ (acc.getD e.on 0).testBit q = true)
  | [], s, q, h => .inl h
  | e :: l, s, q, h => by
    simp only [List.foldl_cons] at h
    rcases fold_bit acc l _ q h with h | ⟨e', he', h1, h2⟩
    · split at h
      · rename_i hb
        simp only [Nat.testBit_or, Bool.or_eq_true, Nat.testBit_two_pow, decide_eq_true_eq] at h
        rcases h with (h | h) | h
        · exact .inl h
        · exact .inr ⟨e, by simp, hb, .inl h.symm⟩
        · exact .inr ⟨e, by simp, hb, .inr h⟩
      · exact .inl h
    · exact .inr ⟨e', by simp [he'], h1, h2⟩

theorem befores_ok : ∀ (l pre : List Oper) (acc : List Nat), acc.length = pre.length → (∀ j q, (acc.getD j 0).testBit q = true → Bef (pre ++ l) q j) →
    ∀ j q, ((befores l acc).getD j 0).testBit q = true → Bef (pre ++ l) q j
  | [], pre, acc, _, h => h
  | o :: l, pre, acc, hl, h => by
    intro j q hq
    have e : pre ++ o :: l = (pre ++ [o]) ++ l := by simp
    simp only [befores] at hq
    rw [e]
    refine befores_ok l (pre ++ [o]) _ (by simp [hl]) (fun j q hj => ?_) j q hq
    rw [← e]
    by_cases h1 : j < acc.length
    · refine h j q ?_
      rw [List.getD_eq_getElem?_getD, List.getElem?_append_left h1, ← List.getD_eq_getElem?_getD] at hj
      exact hj
    · by_cases h2 : j = acc.length
      · subst h2
        rw [List.getD_eq_getElem?_getD, List.getElem?_append_right (Nat.le_refl _)] at hj
        simp only [Nat.sub_self, List.getElem?_cons_zero, Option.getD_some] at hj
        have ho : (pre ++ o :: l)[acc.length]? = some o := by rw [hl]; simp
        rcases fold_bit acc _ _ _ hj with h3 | ⟨e', he', hb, h3 | h3⟩
        · simp at h3
        · subst h3
          exact .edge ho he' hb
        · exact .step ho he' hb (h _ _ h3)
      · rw [List.getD_eq_getElem?_getD, List.getElem?_eq_none (by simp; omega)] at hj
        simp at hj

theorem bbit_bef {ops : List Oper} {q j : Nat} (h : bbit (befores ops []) q j = true) : Bef ops q j :=
  befores_ok ops [] [] rfl (fun j q h => by simp at h) j q h

theorem Bef.closed {ops : List Oper} {L : Nat → Prop} (hcl : ∀ j o e, L j → ops[j]? = some o → e ∈ o.after.toList → Region.binds .any e = true → L e.on) {q j : Nat} (h : Bef ops q j) :
    (∀ o e, ops[j]? = some o → e ∈ o.after.toList → Region.binds .any e = true → L e.on) → L q := by
  induction h with
  | edge ho he hb => exact fun hj => hj _ _ ho he hb
  | step ho he hb h ih => exact fun hj => ih fun o e h1 h2 h3 => hcl _ o e (hj _ _ ho he hb) h1 h2 h3

theorem mem_ann : ∀ {is : List (Nat × I)} {n k j : Nat} {i : I}, (k, j, i) ∈ ann n is → ∃ pre post, is = pre ++ (j, i) :: post ∧ k = n + nX pre
  | [], _, _, _, _, h => by simp [ann] at h
  | (j', i') :: is, n, k, j, i, h => by
    simp only [ann, List.mem_cons, Prod.mk.injEq] at h
    rcases h with ⟨rfl, rfl, rfl⟩ | h
    · exact ⟨[], is, rfl, by simp [nX]⟩
    · obtain ⟨pre, post, h1, h2⟩ := mem_ann h
      refine ⟨(j', i') :: pre, post, by rw [h1]; rfl, ?_⟩
      simp only [nX]
      omega

theorem xs_get : ∀ {is pre : List (Nat × I)} {j : Nat} {i : I} {post : List (Nat × I)}, is = pre ++ (j, i) :: post → isX i = true → (xsOf is)[nX pre]? = some j
  | _, [], j, i, post, rfl, hx => by simp [xsOf, hx, nX]
  | _, (j', i') :: pre, j, i, post, rfl, hx => by
    have ih := xs_get (is := pre ++ (j, i) :: post) rfl hx
    simp only [List.cons_append, xsOf, nX]
    split
    · rw [Nat.add_comm, List.getElem?_cons_succ]; exact ih
    · rw [Nat.zero_add]; exact ih

theorem xs_ann : ∀ {is : List (Nat × I)} {p j : Nat} (n : Nat), (xsOf is)[p]? = some j → ∃ i, (n + p, j, i) ∈ ann n is ∧ isX i = true
  | [], _, _, _, h => by simp [xsOf] at h
  | (j', i') :: is, p, j, n, h => by
    simp only [xsOf] at h
    simp only [ann]
    cases hx : isX i' with
    | true =>
      rw [hx, if_pos rfl] at h
      cases p with
      | zero =>
        simp at h; subst h
        exact ⟨i', by simp, hx⟩
      | succ p =>
        obtain ⟨i, h1, h2⟩ := xs_ann (1 + n) (by simpa using h)
        refine ⟨i, ?_, h2⟩
        simp only [if_true, List.mem_cons]
        rw [show n + (p + 1) = 1 + n + p by omega]
        exact .inr h1
    | false =>
      rw [hx] at h
      simp only [Bool.false_eq_true, if_false] at h
      obtain ⟨i, h1, h2⟩ := xs_ann (0 + n) h
      refine ⟨i, ?_, h2⟩
      simp only [Bool.false_eq_true, if_false, List.mem_cons]
      rw [Nat.zero_add] at h1 ⊢
      exact .inr h1

theorem xs_len : ∀ (is : List (Nat × I)), (xsOf is).length = nX is
  | [] => rfl
  | (j, i) :: is => by
    simp only [xsOf, nX]
    split
    · simp [xs_len is]; omega
    · simp [xs_len is]

theorem ndB_ne : ∀ {l : List Nat} {i j x y : Nat}, ndB l = true → l[i]? = some x → l[j]? = some y → i ≠ j → x ≠ y
  | [], _, _, _, _, _, h, _, _ => by simp at h
  | a :: l, 0, 0, _, _, _, _, _, h => absurd rfl h
  | a :: l, 0, j + 1, x, y, hn, h1, h2, _ => by
    simp only [ndB, Bool.and_eq_true, List.all_eq_true] at hn
    simp at h1 h2
    have := hn.1 y (List.mem_of_getElem? h2)
    simp at this
    rw [← h1]; exact fun e => this e.symm
  | a :: l, i + 1, 0, x, y, hn, h1, h2, _ => by
    simp only [ndB, Bool.and_eq_true, List.all_eq_true] at hn
    simp at h1 h2
    have := hn.1 x (List.mem_of_getElem? h1)
    simp at this
    rw [← h2]; exact this
  | a :: l, i + 1, j + 1, x, y, hn, h1, h2, h => by
    simp only [ndB, Bool.and_eq_true] at hn
    exact ndB_ne hn.2 (by simpa using h1) (by simpa using h2) (by omega)

theorem chain_get {B : List Nat} : ∀ {l : List Nat} {i x y : Nat}, chainB B l = true → l[i]? = some x → l[i + 1]? = some y → bbit B x y = true
  | [], _, _, _, _, h, _ => by simp at h
  | [_], 0, _, _, _, _, h => by simp at h
  | [_], _ + 1, _, _, _, h, _ => by simp at h
  | a :: b :: l, 0, x, y, hc, h1, h2 => by
    simp only [chainB, Bool.and_eq_true] at hc
    simp at h1 h2
    subst h1 h2
    exact hc.1
  | a :: b :: l, i + 1, x, y, hc, h1, h2 => by
    simp only [chainB, Bool.and_eq_true] at hc
    exact chain_get hc.2 (by simpa using h1) (by simpa using h2)

theorem count_lt {p p' : Nat → Bool} : ∀ {l : List Nat} {x : Nat}, (∀ y ∈ l, p' y = true → p y = true) → x ∈ l → p x = true → p' x = false → l.countP p' < l.countP p
  | [], _, _, h, _, _ => by simp at h
  | y :: l, x, hm, hx, h1, h2 => by
    have hle : l.countP p' ≤ l.countP p := List.countP_mono_left fun z hz => hm z (by simp [hz])
    simp only [List.countP_cons]
    by_cases hxy : x = y
    · subst hxy
      simp [h1, h2]; omega
    · have := count_lt (p := p) (p' := p') (l := l) (fun z hz => hm z (by simp [hz])) (by simpa [hxy] using hx) h1 h2
      have hy := hm y (by simp)
      cases hp : p' y with
      | false => simp; omega
      | true => simp [hy hp]; omega

end Go.Proofs.YtjniafcnjbbomaaGreatDoor.DE
