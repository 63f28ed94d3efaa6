/-
  APPENDING; the comparison of strings.
-/
import Derived.Test.YtjlmeikcfdanmaaGreatDoorDe15
namespace Go.Proofs.YtjlmeikcfdanmaaGreatDoor.DE
open Go

section
variable {P : Program} {dp : Nat → Option Fn} {F F' : Fix} {G G' : List Gh} {w w' : World} {S S' : Store} {a : Act} {fr : List D} {o : Oper} {d : D}

/-! ## Strings -/

theorem bget (l : List UInt8) (i : Nat) : (⟨l.toArray⟩ : ByteArray)[i]! = l[i]! := by
  have hs : (⟨l.toArray⟩ : ByteArray).size = l.length := by show l.toArray.size = _; simp
  by_cases h : i < l.length
  · rw [getElem!_pos (⟨l.toArray⟩ : ByteArray) i (by rw [hs]; exact h), getElem!_pos l i h]
    rfl
  · rw [getElem!_neg (⟨l.toArray⟩ : ByteArray) i (by rw [hs]; exact h), getElem!_neg l i h]

/-- The comparison, on lists. -/
def cmpL : List UInt8 → List UInt8 → Int
  | [], [] => 0
  | [], _ :: _ => -1
  | _ :: _, [] => 1
  | x :: a, y :: b => if x == y then cmpL a b else if x < y then -1 else 1

theorem cmpL_find : ∀ (a b : List UInt8), (match (List.range (min a.length b.length)).find? fun i => a[i]! != b[i]! with
    | some i => if a[i]! < b[i]! then (-1 : Int) else 1
    | none => if a.length < b.length then -1 else if a.length > b.length then 1 else 0) = cmpL a b
  | [], [] => rfl
  | [], _ :: _ => by simp [cmpL]
  | _ :: _, [] => by simp [cmpL]
  | x :: a, y :: b => by
    have ih := cmpL_find a b
    have e : min (x :: a).length (y :: b).length = min a.length b.length + 1 := by simp only [List.length_cons]; omega
    rw [e, List.range_succ_eq_map, List.find?_cons]
    simp only [cmpL]
    by_cases hxy : x = y
    · subst hxy
      simp only [List.getElem!_cons_zero, bne_self_eq_false, beq_self_eq_true, if_true, List.find?_map]
      rw [← ih]
      have e2 : ((fun i => (x :: a)[i]! != (x :: b)[i]!) ∘ Nat.succ) = fun i => a[i]! != b[i]! := by
        funext i
        simp
      rw [e2]
      cases (List.range (min a.length b.length)).find? fun i => a[i]! != b[i]! with
      | none => simp
      | some i => simp
    · have h1 : (x != y) = true := by simpa using hxy
      have h2 : (x == y) = false := by simpa using hxy
      simp only [List.getElem!_cons_zero, h1, h2, Bool.false_eq_true, if_false]

theorem cmpL_less : ∀ (a b : List UInt8), cmpL a b = (if Op.bytesLess a b then -1 else if a == b then 0 else 1 : Int)
  | [], [] => rfl
  | [], _ :: _ => rfl
  | _ :: _, [] => by simp [cmpL, Op.bytesLess]
  | x :: a, y :: b => by
    simp only [cmpL, Op.bytesLess, cmpL_less a b]
    by_cases hxy : x = y
    · subst hxy
      have : ¬ (x < x) := UInt8.lt_irrefl x
      simp [this]
    · have h2 : (x == y) = false := by simpa using hxy
      by_cases hlt : x < y
      · simp [h2, hlt]
      · simp [h2, hlt, hxy]

theorem cmp_spec (a b : List UInt8) : Extern.BytealgCompare.cmp ⟨a.toArray⟩ ⟨b.toArray⟩ = (if Op.bytesLess a b then -1 else if a == b then 0 else 1 : Int) := by
  rw [← cmpL_less, ← cmpL_find]
  have ha : (⟨a.toArray⟩ : ByteArray).size = a.length := by show a.toArray.size = _; simp
  have hb : (⟨b.toArray⟩ : ByteArray).size = b.length := by show b.toArray.size = _; simp
  simp only [Extern.BytealgCompare.cmp, ha, hb, bget]
  rfl

theorem ok_cmps {x y : A} {l m : List UInt8} (hm : mR P dp o.op (.cmps x y) = true) (hf : Fr dp F G w a fr) (h1 : av fr x = .s l) (h2 : av fr y = .s m) :
    Pur P dp F G w a o (.i .i64 (if Op.bytesLess l m then -1 else if l == m then 0 else 1)) := by
  simp only [mR] at hm
  split at hm
  · rename_i c ho
    simp only [Bool.and_eq_true] at hm
    obtain ⟨hc, hargs⟩ := hm
    split at hc
    · rename_i f hcal
      split at hc
      · rename_i fn hfn
        simp only [Bool.and_eq_true, beq_iff_eq] at hc
        obtain ⟨⟨hname, hbody⟩, hnext'⟩ := hc
        obtain ⟨e1, e2, e3⟩ := hf.evals hargs
        have hl : c.args.toList.length = 2 := by rw [e1]; rfl
        match hx : c.args.toList, hl with
        | [x1, x2], _ =>
          rw [hx] at hargs
          simp only [mAs, Bool.and_eq_true] at hargs
          have r1 := hf.eval hargs.1
          have r2 := hf.eval hargs.2.1
          rw [h1] at r1; rw [h2] at r2
          generalize hv1 : a.eval x1 = v1 at r1
          generalize hv2 : a.eval x2 = v2 at r2
          cases r1; cases r2
          have hargs' : c.args.map a.eval = #[.string ⟨l.toArray⟩, .string ⟨m.toArray⟩] := by
            apply Array.ext'
            simp [hx, hv1, hv2]
          have hfind : Extern.find fn = some Extern.BytealgCompare.compare := by
            unfold Extern.find
            rw [hname]
            rfl
          have hnext : Extern.findNext fn = none := by simpa using hnext'
          refine ⟨goInt (Extern.BytealgCompare.cmp ⟨l.toArray⟩ ⟨m.toArray⟩), ?_, by rw [cmp_spec]; exact .i _ _⟩
          have hrun := run_callFunc_extern (P := P) hfn (by rw [hname]; rfl) hbody hnext hfind #[.string ⟨l.toArray⟩, .string ⟨m.toArray⟩] w
          have hcmp : (Extern.BytealgCompare.compare #[.string ⟨l.toArray⟩, .string ⟨m.toArray⟩]).run P w = .ok (goInt (Extern.BytealgCompare.cmp ⟨l.toArray⟩ ⟨m.toArray⟩)) w := rfl
          rw [hcmp] at hrun
          simp only [execOp, ho, resolve, hcal, Act.eval, Deferred.ofValue, Sem.run_bind, Sem.run_pure, Result.andThen, invoke, hargs', Array.append_empty, Array.empty_append, hrun]
      · cases hc
    · cases hc
  · cases hm

/-! ## Appending -/

/-- The cells of a slice that is read. -/
theorem rel_news {k k2 : Nat} {nl : Bool} {ys : List (List D)} {ow : Own} {v : Value} (h : Rel dp F G w v (.sl k2 nl ys ow)) (hk : k2 = k ∨ ys = []) (hk0 : 0 < k) :
    ∃ (news : List Value) (base : Option Addr) (cap : Nat), v = .slice base ys.length cap ∧ news.length = ys.length * k ∧ (∀ u ∈ news, u.oneCell' = true) ∧ RowOk dp F G w k news.toArray ys ∧
      ∀ w2 : World, (∀ b o, F b o → w2.cell? ⟨b, o, none⟩ = w.cell? ⟨b, o, none⟩) → (Builtin.firstCells k ys.length v).run P w2 = .ok news.toArray w2 := by
  cases h with
  | nil => exact ⟨[], none, 0, rfl, by simp, by simp, ⟨by simp, fun j x m d h => by simp at h⟩, fun w2 _ => by simp [Builtin.firstCells]⟩
  | sl _ _ _ blk off cap c hkl hcap h1 h2 ho =>
    by_cases hys : ys = []
    · subst hys
      refine ⟨[], some ⟨blk, off, none⟩, cap, rfl, by simp, by simp, ⟨by simp, fun j x m d h => by simp at h⟩, fun w2 _ => ?_⟩
      exact run_firstCells_some (P := P) w2 k 0 ⟨blk, off, none⟩ 0 cap [] (by simp) (by simp)
    · have hk2 : k2 = k := hk.resolve_right hys
      subst hk2
      have hmem : ∀ q, q < ys.length * k2 → q / k2 < ys.length ∧ q % k2 < k2 ∧ q / k2 * k2 + q % k2 = q := fun q hq =>
        ⟨(Nat.div_lt_iff_lt_mul hk0).2 hq, Nat.mod_lt _ hk0, by rw [Nat.mul_comm]; exact Nat.div_add_mod q k2⟩
      have hcell : ∀ q, q < ys.length * k2 → F blk (off + q) ∧ w.cell? ⟨blk, off + q, none⟩ = some (c (q / k2) (q % k2)) ∧ (c (q / k2) (q % k2)).oneCell' = true := by
        intro q hq
        obtain ⟨b1, b2, b3⟩ := hmem q hq
        have hl := hkl ys[q / k2] (by simp)
        have := h1 (q / k2) ys[q / k2] (q % k2) (ys[q / k2][q % k2]'(by omega)) (List.getElem?_eq_getElem b1) (List.getElem?_eq_getElem (by omega))
        rw [Nat.add_assoc, b3] at this
        exact this
      refine ⟨(List.range (ys.length * k2)).map fun q => c (q / k2) (q % k2), some ⟨blk, off, none⟩, cap, rfl, by simp, fun u hu => ?_, ⟨hkl, fun j x m d hx hd => ?_⟩, fun w2 hw2 => ?_⟩
      · obtain ⟨q, hq, rfl⟩ := List.mem_map.1 hu
        exact (hcell q (List.mem_range.1 hq)).2.2
      · have hj := (List.getElem?_eq_some_iff.1 hx).1
        have hm : m < k2 := by
          have := (List.getElem?_eq_some_iff.1 hd).1
          rw [hkl x (List.mem_of_getElem? hx)] at this
          exact this
        have hlt := lt_mul hj hm
        have hdiv : (j * k2 + m) / k2 = j := by
          rw [Nat.add_comm, Nat.add_mul_div_right _ _ hk0, Nat.div_eq_of_lt hm, Nat.zero_add]
        refine ⟨c j m, ?_, (h1 j x m d hx hd).2.2, h2 j x m d hx hd⟩
        simp [hlt, hdiv, mod_row hm]
      · refine run_firstCells_some (P := P) w2 k2 ys.length ⟨blk, off, none⟩ ys.length cap _ (by simp) fun j u hu => ?_
        have hj := (List.getElem?_eq_some_iff.1 hu).1
        simp only [List.length_map, List.length_range] at hj
        obtain ⟨b1, b2, b3⟩ := hcell j hj
        simp [hj] at hu
        rw [addr_add, hw2 _ _ b1, b2, hu]

theorem run_append_types {t u ty e e' : TypeId} (ht : P.underlying t = some (.slice e)) (hu : P.underlying u = some (.slice e')) (x y : Value) :
    (Builtin.append_ #[t, u] ty #[x, y]).run P w = (Builtin.append_ #[t, t] ty #[x, y]).run P w := by
  cases x <;> simp [Builtin.append_, run_underlying ht, run_underlying hu]

theorem run_app_room {t ty e : TypeId} {i : TypeInfo} {b : Nat} {off n cap m c2 : Nat} {b2 : Option Addr} {news : List Value} (ht : P.underlying t = some (.slice e)) (hi : P.info? e = some i)
    (hroom : n + m ≤ cap) (hn : (Builtin.firstCells i.size m (.slice b2 m c2)).run P w = .ok news.toArray w) (hst : (storeCells ⟨b, off + n * i.size, none⟩ news).run P w = .ok () w') :
    (Builtin.append_ #[t, t] ty #[.slice (some ⟨b, off, none⟩) n cap, .slice b2 m c2]).run P w = .ok (.slice (some ⟨b, off, none⟩) (n + m) cap) w' := by
  simp [Builtin.append_, run_underlying ht, sizeOf, typeInfo, hi, Builtin.lenOf, hroom, hn, addr_add, hst]

theorem run_app_none {t ty e : TypeId} {i : TypeInfo} {n m cap c2 : Nat} {b2 : Option Addr} {news : List Value} (ht : P.underlying t = some (.slice e)) (hi : P.info? e = some i)
    (hroom : n + m ≤ cap) (hn : (Builtin.firstCells i.size m (.slice b2 m c2)).run P w = .ok news.toArray w) :
    (Builtin.append_ #[t, t] ty #[.slice none n cap, .slice b2 m c2]).run P w = .ok (.slice none (n + m) cap) w := by
  simp [Builtin.append_, run_underlying ht, sizeOf, typeInfo, hi, Builtin.lenOf, hroom, hn]

theorem run_app_grow {t ty e : TypeId} {i : TypeInfo} {z : Value} {n m cap c2 : Nat} {b1 b2 : Option Addr} {olds news : List Value} (ht : P.underlying t = some (.slice e)) (hi : P.info? e = some i) (hz : i.zero = some z)
    (hroom : cap < n + m) (hb : i.bytes ≤ 65536) (hsm : n + m ≤ maxLenD) (ho : (Builtin.firstCells i.size n (.slice b1 n cap)).run P w.drew = .ok olds.toArray w.drew) (hn : (Builtin.firstCells i.size m (.slice b2 m c2)).run P w.drew = .ok news.toArray w.drew) :
    (Builtin.append_ #[t, t] ty #[.slice b1 n cap, .slice b2 m c2]).run P w =
      .ok (.slice (some ⟨w.heap.size, 0, none⟩) (n + m) (grownCap w (n + m) cap e)) (w.drew.alloc (.cells (olds.toArray ++ news.toArray ++ Builtin.zeroCells z.cells (grownCap w (n + m) cap e - (n + m))) e)) := by
  have hn1 : ¬ (n + m ≤ cap) := by omega
  simp only [maxLenD] at hsm
  have h63' : ¬ (9223372036854775807 < ((n : Int) + (m : Int))) := by omega
  have h48' : ¬ (281474976710656 < Builtin.nextslicecap (n + m) cap * i.bytes) := by
    have h1 := nextslicecap_le (need := n + m) (old := cap) (by omega)
    have h2 : Builtin.nextslicecap (n + m) cap * i.bytes ≤ 2097152 * 65536 := Nat.mul_le_mul (by omega) hb
    omega
  simp [Builtin.append_, run_underlying ht, sizeOf, typeInfo, zeroValue, hi, hz, Builtin.lenOf, hn1, h63', h48', Question.forced, ho, hn, newRow, grownCap]
  congr 2
  apply Array.ext'
  simp [List.append_assoc]

theorem getElem?_app3 (xs ys zs : Array Value) (q : Nat) : (xs ++ ys ++ zs)[q]? = if q < xs.size then xs[q]? else if q < xs.size + ys.size then ys[q - xs.size]? else zs[q - xs.size - ys.size]? := by
  rw [Array.getElem?_append]
  simp only [Array.size_append]
  by_cases h1 : q < xs.size
  · rw [if_pos (by omega), if_pos h1, Array.getElem?_append_left h1]
  · rw [if_neg h1]
    by_cases h2 : q < xs.size + ys.size
    · rw [if_pos h2, if_pos h2, Array.getElem?_append_right (by omega)]
    · rw [if_neg h2, if_neg h2]
      congr 1
      omega

theorem RowOk.append {k : Nat} {olds news rest : Array Value} {xs ys : List (List D)} (h1 : RowOk dp F G w k olds xs) (h2 : RowOk dp F G w k news ys) (l1 : olds.size = xs.length * k) (l2 : news.size = ys.length * k) :
    RowOk dp F G w k (olds ++ news ++ rest) (xs ++ ys) := by
  refine ⟨fun x hx => ?_, fun j x m d hx hd => ?_⟩
  · rcases List.mem_append.1 hx with hx | hx
    · exact h1.1 x hx
    · exact h2.1 x hx
  · by_cases hj : j < xs.length
    · rw [List.getElem?_append_left hj] at hx
      obtain ⟨v, a1, a2, a3⟩ := h1.2 j x m d hx hd
      have hm : m < k := by
        have := (List.getElem?_eq_some_iff.1 hd).1
        rw [h1.1 x (List.mem_of_getElem? hx)] at this
        exact this
      have hlt := lt_mul hj hm
      refine ⟨v, ?_, a2, a3⟩
      rw [getElem?_app3, if_pos (by omega)]
      exact a1
    · rw [List.getElem?_append_right (by omega)] at hx
      obtain ⟨v, a1, a2, a3⟩ := h2.2 _ x m d hx hd
      have hj2 := (List.getElem?_eq_some_iff.1 hx).1
      have hm : m < k := by
        have := (List.getElem?_eq_some_iff.1 hd).1
        rw [h2.1 x (List.mem_of_getElem? hx)] at this
        exact this
      have hlt := lt_mul hj2 hm
      have e : j * k = xs.length * k + (j - xs.length) * k := by rw [← Nat.add_mul]; congr 1; omega
      refine ⟨v, ?_, a2, a3⟩
      rw [getElem?_app3, if_neg (by omega), if_pos (by omega)]
      rw [show j * k + m - olds.size = (j - xs.length) * k + m by omega]
      exact a1

theorem sset_consume {t : Nat} (id : Nat) (e : Ent) (h : sget (sset S t (.tok false)) id = some e) : sget S id = some e ∨ ¬ holds e := by
  rw [sget_sset] at h
  split at h
  · injection h with h; subst h
    exact .inr (fun h => h)
  · exact .inl h

/-- Appending within the row: what is written becomes fixed; the token goes to the new holder. -/
theorem Sim.extend (hs : Sim dp F G w S) {t : Nat} {g : Gh} {x : Obj} {lo : Nat} (ht : sget S t = some (.tok true)) (hg : sget G t = some g) (hw : Wrote w g.blk x w')
    (hcell : ∀ o, F g.blk o → w'.cell? ⟨g.blk, o, none⟩ = w.cell? ⟨g.blk, o, none⟩) (hlo : g.lo ≤ lo) (hex : ∀ o, g.lo ≤ o → o < lo → ∃ v, w'.cell? ⟨g.blk, o, none⟩ = some v)
    (hx : ∃ vs T, x = .cells vs T (0, 0) ∧ g.hi ≤ vs.size) :
    Sim dp (fun b o => F b o ∨ (b = g.blk ∧ g.lo ≤ o ∧ o < lo)) (⟨g.blk, lo, g.hi⟩ :: G) w' (.tok true :: sset S t (.tok false)) ∧
    Ext F G w S (fun b o => F b o ∨ (b = g.blk ∧ g.lo ≤ o ∧ o < lo)) (⟨g.blk, lo, g.hi⟩ :: G) w' (.tok true :: sset S t (.tok false)) := by
  obtain ⟨_, _, _, _, hfree⟩ := hs.ent t _ g ht hg
  have hlen : (sset S t (.tok false)).length = S.length := sset_length _ _ _
  refine hs.step (fun b => b = g.blk) (by simp [hlen, hs.len]) (fun id g' h => by rw [sget_cons _ _ _ (sget_lt h)]; exact h) (fun _ _ h => .inl h)
    (fun b o h => ?_) (fun b o h => ?_) (fun b _ hb => hw.other b hb) (fun b hb => .inl ⟨t, _, g, ht, trivial, hg, hb.symm⟩) ?_ (by rw [hw.size]; exact Nat.le_refl _) hw.os hw.tape hw.output
  · by_cases hb : b = g.blk
    · subst hb; exact hcell o h
    · exact World.cell?_of_block (a := ⟨b, o, none⟩) (hw.other b hb)
  · rcases h with h | ⟨rfl, h1, h2⟩
    · exact .inl h
    · exact .inr ⟨rfl, hex o h1 h2⟩
  · have hold : ∀ {j e' g'}, j ≠ S.length → sget (.tok true :: sset S t (.tok false)) j = some e' → sget (⟨g.blk, lo, g.hi⟩ :: G) j = some g' → holds e' → sget S j = some e' ∧ sget G j = some g' ∧ g'.blk ≠ g.blk := by
      intro j e' g' hj h1 h2 hh
      simp only [sget] at h1 h2
      rw [hlen, if_neg hj] at h1
      rw [hs.len, if_neg hj] at h2
      rw [sget_sset] at h1
      split at h1
      · injection h1 with h1; subst h1; exact hh.elim
      · rename_i hjt
        refine ⟨h1, h2, hs.sep j t e' _ g' g ?_ h1 ht hh trivial h2 hg⟩
        intro heq
        exact hjt ⟨heq, heq ▸ sget_lt h1⟩
    intro id e' g' h1 h2
    by_cases hid : id = S.length
    · have e1 : e' = .tok true := by rw [hid, ← hlen, sget_top] at h1; injection h1 with h1; exact h1.symm
      have e2 : g' = ⟨g.blk, lo, g.hi⟩ := by rw [hid, ← hs.len, sget_top] at h2; injection h2 with h2; exact h2.symm
      refine .inr (.inr ?_)
      rw [e1, e2]
      obtain ⟨vs, T, rfl, hhi⟩ := hx
      refine ⟨rfl, ⟨vs, T, hw.at_, hhi, fun o ho h => ?_⟩, fun j e'' g'' hj h3 h4 hh => (hold (by omega) h3 h4 hh).2.2⟩
      simp only at ho
      rcases h with h | ⟨_, _, h⟩
      · exact hfree o (by omega) h
      · omega
    · by_cases hh : holds e'
      · obtain ⟨a1, a2, a3⟩ := hold hid h1 h2 hh
        exact .inr (.inl ⟨a1, a2, a3⟩)
      · exact .inl hh

theorem rel_sl {k : Nat} {nl : Bool} {xs : List (List D)} {ow : Own} {v : Value} (h : Rel dp F G w v (.sl k nl xs ow)) :
    (nl = true ∧ xs = [] ∧ v = .slice none 0 0) ∨ (nl = false ∧ ∃ (blk off cap : Nat) (c : Nat → Nat → Value), v = .slice (some ⟨blk, off, none⟩) xs.length cap ∧ (∀ x ∈ xs, x.length = k) ∧ xs.length ≤ cap ∧
      (∀ (j : Nat) (x : List D) (m : Nat) (d : D), xs[j]? = some x → x[m]? = some d → F blk (off + j * k + m) ∧ w.cell? ⟨blk, off + j * k + m, none⟩ = some (c j m) ∧ (c j m).oneCell' = true) ∧
      (∀ (j : Nat) (x : List D) (m : Nat) (d : D), xs[j]? = some x → x[m]? = some d → Rel dp F G w (c j m) d) ∧ OwnOk G blk (off + xs.length * k) (off + cap * k) cap ow) := by
  cases h with
  | nil => exact .inl ⟨rfl, rfl, rfl⟩
  | sl _ _ _ blk off cap c hkl hcap h1 h2 ho => exact .inr ⟨rfl, blk, off, cap, c, rfl, hkl, hcap, h1, h2, ho⟩

theorem appD_cases {k : Nat} {arr : Bool} {x y : D} {r : D × Store} (h : appD k arr x y S = some r) :
    ∃ nl xs ow k2 nl2 ys ow2, x = .sl k nl xs ow ∧ y = .sl k2 nl2 ys ow2 ∧ (k2 = k ∨ ys = []) ∧ xs.length + ys.length ≤ maxLenD ∧
      ((∃ t, ow = .tok t ∧ sget S t = some (.tok true) ∧ arr = false ∧ nl = false ∧ r = (.sl k false (xs ++ ys) (.tok S.length), .tok true :: sset S t (.tok false))) ∨
       ((ow = .cap0 ∨ nl = true) ∧ ((ys = [] ∧ r = (.sl k nl xs ow, S)) ∨ (0 < ys.length ∧ arr = true ∧ r = (.ar k S.length 0 ys.length, .box ys.flatten :: S)) ∨
         (0 < ys.length ∧ arr = false ∧ r = (.sl k false ys (.tok S.length), .tok true :: S))))) := by
  unfold appD at h
  split at h
  · rename_i k1 nl xs ow k2 nl2 ys ow2
    split at h
    · rename_i hcond
      obtain ⟨rfl, hk2, hlen⟩ := hcond
      refine ⟨nl, xs, ow, k2, nl2, ys, ow2, rfl, rfl, hk2, hlen, ?_⟩
      have rest : ∀ c : Bool, (c = true → ow = .cap0 ∨ nl = true) → (if c = true then (if ys.isEmpty then some (D.sl k1 nl xs ow, S)
          else if arr then some (.ar k1 S.length 0 ys.length, .box ys.flatten :: S)
          else some (.sl k1 false ys (.tok S.length), .tok true :: S)) else none) = some r →
          ((ow = .cap0 ∨ nl = true) ∧ ((ys = [] ∧ r = (.sl k1 nl xs ow, S)) ∨ (0 < ys.length ∧ arr = true ∧ r = (.ar k1 S.length 0 ys.length, .box ys.flatten :: S)) ∨
         (0 < ys.length ∧ arr = false ∧ r = (.sl k1 false ys (.tok S.length), .tok true :: S)))) := by
        intro c hc h
        split at h
        · rename_i hct
          refine ⟨hc hct, ?_⟩
          split at h
          · rename_i hemp
            injection h with h
            exact .inl ⟨by simpa using hemp, h.symm⟩
          · rename_i hne
            have hpos : 0 < ys.length := by
              cases ys with
              | nil => simp at hne
              | cons _ _ => simp
            split at h
            · rename_i ha
              injection h with h
              exact .inr (.inl ⟨hpos, ha, h.symm⟩)
            · rename_i ha
              injection h with h
              exact .inr (.inr ⟨hpos, by simpa using ha, h.symm⟩)
        · cases h
      cases ow with
      | ro => exact .inr (rest nl (fun h => .inr h) h)
      | cap0 => exact .inr (rest true (fun h => .inl rfl) h)
      | tok t =>
        simp only at h
        split at h
        · rename_i htok
          split at h
          · cases h
          · rename_i hn
            simp only [Bool.or_eq_true, not_or, Bool.not_eq_true] at hn
            injection h with h
            exact .inl ⟨t, rfl, htok, hn.1, hn.2, h.symm⟩
        · cases h
    · cases h
  · cases h

theorem ok_app {k : Nat} {arr : Bool} {x y : A} {r : D × Store} (hm : mR P dp o.op (.app k arr x y) = true) (hs : Sim dp F G w S) (hf : Fr dp F G w a fr) (he : appD k arr (av fr x) (av fr y) S = some r) :
    OpOk P dp F G w S a o r.1 r.2 := by
  simp only [mR] at hm
  split at hm
  · rename_i c ho
    simp only [Bool.and_eq_true] at hm
    obtain ⟨⟨hb, ht⟩, hargs⟩ := hm
    split at hb
    · rename_i hcal
      split at ht
      · rename_i t u hts
        simp only [Bool.and_eq_true] at ht
        obtain ⟨ht, hu⟩ := ht
        split at ht
        · rename_i e hut
          simp only [Bool.and_eq_true, decide_eq_true_eq] at ht
          obtain ⟨⟨hsz, hk0⟩, hinfo⟩ := ht
          split at hinfo
          · rename_i i hi
            simp only [Bool.and_eq_true, decide_eq_true_eq] at hinfo
            obtain ⟨hbytes, hzz⟩ := hinfo
            split at hzz
            · rename_i z hz
              simp only [beq_iff_eq, Bool.and_eq_true, List.all_eq_true] at hzz
              obtain ⟨hzz, hzone⟩ := hzz
              have hisz : i.size = k := by
                unfold mSz at hsz
                rw [hi] at hsz
                simpa using hsz
              unfold mU at hu
              split at hu
              · rename_i du hdu
                dsimp only at hu
                split at hu
                · rename_i e'
                  have hat : c.argTypes = #[t, u] := by
                    apply Array.ext'
                    rw [hts]
                  obtain ⟨l1, _, _⟩ := hf.evals hargs
                  have hl : c.args.toList.length = 2 := by rw [l1]; rfl
                  match hx : c.args.toList, hl with
                  | [x1, x2], _ =>
                    rw [hx] at hargs
                    simp only [mAs, Bool.and_eq_true] at hargs
                    have r1 := hf.eval hargs.1
                    have r2 := hf.eval hargs.2.1
                    have hargs' : c.args.map a.eval = #[a.eval x1, a.eval x2] := by
                      apply Array.ext'
                      simp [hx]
                    have run : ∀ v w', (Builtin.append_ #[t, t] o.type #[a.eval x1, a.eval x2]).run P w = .ok v w' → (execOp a.eval o).run P w = .ok (.value v) w' := by
                      intro v w' h
                      simp only [execOp, ho, resolve, hcal, Sem.run_bind, Sem.run_pure, Result.andThen, invoke, builtin, hat, hargs', run_append_types hut hdu, h]
                    generalize a.eval x1 = v1 at r1 run
                    generalize a.eval x2 = v2 at r2 run
                    generalize av fr x = xd at r1 he
                    generalize av fr y = yd at r2 he
                    obtain ⟨nl, xs, ow, k2, nl2, ys, ow2, rfl, rfl, hk2, hlen, he⟩ := appD_cases he
                    obtain ⟨news, b2, c2, rfl, n1, n2, n3, n4⟩ := rel_news (P := P) r2 hk2 hk0
                    obtain ⟨olds, b1, cap, hv1, m1, m2, m3, m4⟩ := rel_news (P := P) r1 (.inl rfl) hk0
                    subst hv1
                    have hn := n4 w (fun _ _ _ => rfl)
                    have hnd := n4 w.drew (fun _ _ _ => rfl)
                    have hod := m4 w.drew (fun _ _ _ => rfl)
                    -- a new row
                    have grow : cap < xs.length + ys.length → (execOp a.eval o).run P w = .ok (.value (.slice (some ⟨w.heap.size, 0, none⟩) (xs.length + ys.length) (grownCap w (xs.length + ys.length) cap e)))
                        (w.drew.alloc (.cells (olds.toArray ++ news.toArray ++ Builtin.zeroCells z.cells (grownCap w (xs.length + ys.length) cap e - (xs.length + ys.length))) e)) := fun hc =>
                      run _ _ (run_app_grow hut hi hz hc hbytes hlen (by rw [hisz]; exact hod) (by rw [hisz]; exact hnd))
                    have hge := grownCap_ge w (xs.length + ys.length) cap e
                    have hrow := m3.append n3 (rest := Builtin.zeroCells z.cells (grownCap w (xs.length + ys.length) cap e - (xs.length + ys.length))) (by simpa using m1) (by simpa using n1)
                    have hsize : (olds.toArray ++ news.toArray ++ Builtin.zeroCells z.cells (grownCap w (xs.length + ys.length) cap e - (xs.length + ys.length))).size = grownCap w (xs.length + ys.length) cap e * k := by
                      simp only [Array.size_append, List.size_toArray, m1, n1, size_zeroCells, hzz]
                      rw [← Nat.add_mul, ← Nat.add_mul]
                      congr 1
                      omega
                    have hlx : (xs ++ ys).length = xs.length + ys.length := List.length_append
                    rcases he with ⟨tk, rfl, htok, rfl, rfl, rfl⟩ | ⟨hemp, he⟩
                    · -- the holder of an open row
                      by_cases hroom : xs.length + ys.length ≤ cap
                      · rcases rel_sl r1 with ⟨h, _⟩ | ⟨_, blk, off, cap', cc, hv, hkl, hcap, h1, h2, hown⟩
                        · cases h
                        · injection hv with hv1 _ hv2
                          subst hv1 hv2
                          simp only [OwnOk] at hown
                          obtain ⟨vs, T, e1, e2, e3⟩ := hs.ent tk _ _ htok hown
                          simp only at e1 e2 e3
                          have hle : (xs.length + ys.length) * k ≤ cap * k := Nat.mul_le_mul_right k hroom
                          rw [Nat.add_mul] at hle
                          have hst := run_storeCells_at P blk (off + xs.length * k) T news 0 vs w e1 (by omega) n2
                          simp only [Nat.add_zero] at hst
                          have hfit : off + xs.length * k + news.length ≤ vs.size := by omega
                          have hcc : ∀ o, (w.setRow blk (vs.toList.take (off + xs.length * k) ++ news ++ vs.toList.drop (off + xs.length * k + news.length)).toArray).cell? ⟨blk, o, none⟩ =
                              if off + xs.length * k ≤ o ∧ o < off + xs.length * k + news.length then news[o - (off + xs.length * k)]? else w.cell? ⟨blk, o, none⟩ := by
                            intro o
                            rw [cell_box (setRow_heap w blk vs _ T _ e1), put_get _ _ _ _ hfit, cell_box e1]
                          have hsim := hs.extend htok hown (wrote_setRow (cs := (vs.toList.take (off + xs.length * k) ++ news ++ vs.toList.drop (off + xs.length * k + news.length)).toArray) e1) (lo := off + xs.length * k + news.length)
                            (fun o ho => by rw [hcc, if_neg]; intro h; exact e3 o h.1 ho) (by simp) (fun o h1 h2 => by
                              simp only at h1 h2
                              rw [hcc, if_pos ⟨h1, h2⟩]
                              have : o - (off + xs.length * k) < news.length := by omega
                              exact ⟨news[o - (off + xs.length * k)], List.getElem?_eq_getElem this⟩) ⟨_, T, rfl, by
                                rw [put_size _ _ _ hfit]
                                exact e2⟩
                          refine opOk_value (run _ _ (run_app_room hut hi hroom (by rw [hisz]; exact hn) (by rw [hisz]; exact hst))) hsim ?_
                          rw [← hlx]
                          refine .sl k (xs ++ ys) _ blk off cap (fun j m => if j < xs.length then cc j m else news.getD ((j - xs.length) * k + m) undef) (fun q hq => ?_) (by omega) (fun j q m d hq hd => ?_) (fun j q m d hq hd => ?_) ?_
                          · rcases List.mem_append.1 hq with hq | hq
                            · exact hkl q hq
                            · exact n3.1 q hq
                          · by_cases hj : j < xs.length
                            · rw [List.getElem?_append_left hj] at hq
                              obtain ⟨b1, b2, b3⟩ := h1 j q m d hq hd
                              rw [if_pos hj]
                              refine ⟨.inl b1, ?_, b3⟩
                              rw [hcc, if_neg (fun h => e3 _ h.1 b1)]
                              exact b2
                            · rw [List.getElem?_append_right (by omega)] at hq
                              obtain ⟨v, a1, a2, a3⟩ := n3.2 _ q m d hq hd
                              have hj2 := (List.getElem?_eq_some_iff.1 hq).1
                              have hm : m < k := by
                                have := (List.getElem?_eq_some_iff.1 hd).1
                                rw [n3.1 q (List.mem_of_getElem? hq)] at this
                                exact this
                              have hlt := lt_mul hj2 hm
                              have e' : j * k = xs.length * k + (j - xs.length) * k := by rw [← Nat.add_mul]; congr 1; omega
                              rw [if_neg hj]
                              have hv : news.getD ((j - xs.length) * k + m) undef = v := by
                                have : news[(j - xs.length) * k + m]? = some v := by simpa using a1
                                simp [this]
                              rw [hv]
                              refine ⟨.inr ⟨rfl, by first | omega | (simp only; omega), by first | omega | (simp only; omega)⟩, ?_, a2⟩
                              rw [hcc, if_pos (by omega), show off + j * k + m - (off + xs.length * k) = (j - xs.length) * k + m by omega]
                              simpa using a1
                          · by_cases hj : j < xs.length
                            · rw [List.getElem?_append_left hj] at hq
                              rw [if_pos hj]
                              exact (h2 j q m d hq hd).ext hsim.2
                            · rw [List.getElem?_append_right (by omega)] at hq
                              obtain ⟨v, a1, a2, a3⟩ := n3.2 _ q m d hq hd
                              rw [if_neg hj]
                              have hv : news.getD ((j - xs.length) * k + m) undef = v := by
                                have : news[(j - xs.length) * k + m]? = some v := by simpa using a1
                                simp [this]
                              rw [hv]
                              exact a3.ext hsim.2
                          · have e' : off + (xs ++ ys).length * k = off + xs.length * k + news.length := by rw [hlx, Nat.add_mul, n1]; omega
                            simp only [OwnOk]
                            rw [e', ← hs.len, sget_top]
                      · obtain ⟨h1, h2⟩ := hs.pushRow (cap := grownCap w (xs.length + ys.length) cap e) (grown_drew w _) hrow hsize (by omega) (S0 := sset S tk (.tok false)) (sset_length _ _ _) sset_consume
                        rw [sset_length] at h2
                        rw [hlx] at h1 h2
                        exact opOk_value (grow (by omega)) h1 h2
                    · have hx0 : xs = [] ∧ cap = 0 := by
                        rcases rel_sl r1 with ⟨_, hx0, hv⟩ | ⟨hnl, blk, off, cap', cc, hv, hkl, hcap, h1, h2, hown⟩
                        · injection hv with _ _ hv
                          exact ⟨hx0, hv⟩
                        · injection hv with _ _ hv
                          rcases hemp with rfl | hh
                          · simp only [OwnOk] at hown
                            exact ⟨List.eq_nil_of_length_eq_zero (by omega), by omega⟩
                          · rw [hh] at hnl; cases hnl
                      obtain ⟨rfl, rfl⟩ := hx0
                      simp only [List.length_nil, Nat.zero_add, List.nil_append] at grow hge hrow hsize
                      rcases he with ⟨rfl, rfl⟩ | ⟨hpos, rfl, rfl⟩ | ⟨hpos, rfl, rfl⟩
                      · have hnews : news = [] := List.eq_nil_of_length_eq_zero (by simpa using n1)
                        subst hnews
                        refine opOk_value (v := .slice b1 0 0) (w' := w) (run _ _ ?_) ⟨hs, Ext.refl _ _ _ _⟩ r1
                        rcases rel_sl r1 with ⟨_, _, hv⟩ | ⟨_, blk, off, cap', cc, hv, _⟩
                        · injection hv with hv
                          subst hv
                          exact run_app_none (i := i) hut hi (Nat.le_refl _) (by rw [hisz]; exact hn)
                        · injection hv with hv
                          subst hv
                          exact run_app_room (i := i) hut hi (Nat.le_refl _) (by rw [hisz]; exact hn) (by simp [storeCells])
                      · have hcells := row_cells n3 hk0 (by simpa using n1)
                        have hle : CellsLe dp F G w (olds.toArray ++ news.toArray ++ Builtin.zeroCells z.cells (grownCap w ys.length 0 e - ys.length)) ys.flatten := by
                          have ho0 : olds = [] := List.eq_nil_of_length_eq_zero (by simpa using m1)
                          subst ho0
                          have hfl := hcells.1
                          simp only [List.size_toArray] at hfl
                          refine ⟨by simp only [Array.size_append, List.size_toArray]; omega, fun j v d hv hd => ?_⟩
                          have hj := (List.getElem?_eq_some_iff.1 hd).1
                          rw [getElem?_app3, if_neg (by simp), if_pos (by simp; omega)] at hv
                          exact hcells.2 j v d (by simpa using hv) hd
                        refine opOk_value (grow hpos) (hs.pushBox (grown_drew w _) hle (fun u hu => ?_) rfl fun _ _ h => .inl h) (.ar k _ 0 _ _ ⟨w.heap.size, 0, 0⟩ (by rw [← hs.len]; exact sget_top _ _) hge)
                        simp only [Array.toList_append, List.mem_append] at hu
                        rcases hu with (hu | hu) | hu
                        · exact m2 u hu
                        · exact n2 u hu
                        · obtain ⟨q, hq, rfl⟩ := List.getElem_of_mem hu
                          simp only [Builtin.zeroCells] at hq ⊢
                          have hq' : q < (grownCap w ys.length 0 e - ys.length) * z.cells.size := by simpa using hq
                          have hmod : q % z.cells.size < z.cells.size := Nat.mod_lt _ (by omega)
                          simp [hmod]
                          exact hzone _ (by simp)
                      · obtain ⟨h1, h2⟩ := hs.pushRow (cap := grownCap w ys.length 0 e) (grown_drew w _) hrow hsize (by omega) (S0 := S) rfl (fun _ _ h => .inl h)
                        exact opOk_value (grow hpos) h1 h2
                · cases hu
              · cases hu
            · cases hzz
          · cases hinfo
        · cases ht
      · cases ht
    · cases hb
  · cases hm

end

end Go.Proofs.YtjlmeikcfdanmaaGreatDoor.DE
