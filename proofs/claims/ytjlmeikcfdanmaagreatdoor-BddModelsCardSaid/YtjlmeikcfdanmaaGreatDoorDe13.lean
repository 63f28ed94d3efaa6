/-
  ROWS: slice literals, 'make', appending.
-/
import Derived.Test.YtjlmeikcfdanmaaGreatDoorDe12
namespace Go.Proofs.YtjlmeikcfdanmaaGreatDoor.DE
open Go

section
variable {P : Program} {dp : Nat → Option Fn} {F F' : Fix} {G G' : List Gh} {w w' : World} {S S' : Store} {a : Act} {fr : List D} {o : Oper} {d : D}

theorem flatten_get {α : Type} {k : Nat} (hk : 0 < k) : ∀ {xs : List (List α)} (q : Nat), (∀ x ∈ xs, x.length = k) → xs.flatten[q]? = (xs[q / k]?).bind (·[q % k]?)
  | [], q, _ => by simp
  | x :: xs, q, h => by
    have hx : x.length = k := h x (by simp)
    rw [List.flatten_cons]
    by_cases hq : q < k
    · rw [List.getElem?_append_left (by omega), Nat.div_eq_of_lt hq, Nat.mod_eq_of_lt hq]
      rfl
    · rw [List.getElem?_append_right (by omega), hx, flatten_get hk (q - k) fun y hy => h y (by simp [hy])]
      have e1 : q / k = (q - k) / k + 1 := by
        have := Nat.div_eq_sub_div hk (show k ≤ q by omega)
        exact this
      have e2 : q % k = (q - k) % k := Nat.mod_eq_sub_mod (by omega)
      rw [e1, e2]
      rfl

theorem flatten_len {α : Type} {k : Nat} : ∀ {xs : List (List α)}, (∀ x ∈ xs, x.length = k) → xs.flatten.length = xs.length * k
  | [], _ => by simp
  | x :: xs, h => by
    rw [List.flatten_cons, List.length_append, h x (by simp), flatten_len fun y hy => h y (by simp [hy]), List.length_cons, Nat.add_mul]
    omega

/-- The cells of a row, from 'off' on. -/
def RowOk (dp : Nat → Option Fn) (F : Fix) (G : List Gh) (w : World) (k : Nat) (vs : Array Value) (xs : List (List D)) : Prop :=
  (∀ x ∈ xs, x.length = k) ∧ ∀ (j : Nat) (x : List D) (m : Nat) (d : D), xs[j]? = some x → x[m]? = some d → ∃ v, vs[j * k + m]? = some v ∧ v.oneCell' = true ∧ Rel dp F G w v d

theorem RowOk.mono {k : Nat} {vs : Array Value} {xs : List (List D)} (h : RowOk dp F G w k vs xs) (hF : ∀ b o, F b o → F' b o) (hG : ∀ id g, sget G id = some g → sget G' id = some g)
    (hw : ∀ b o, F b o → w'.cell? ⟨b, o, none⟩ = w.cell? ⟨b, o, none⟩) : RowOk dp F' G' w' k vs xs :=
  ⟨h.1, fun j x m d hx hd => by
    obtain ⟨v, h1, h2, h3⟩ := h.2 j x m d hx hd
    exact ⟨v, h1, h2, h3.mono hF hG hw⟩⟩

theorem lt_mul {j n k m : Nat} (hj : j < n) (hm : m < k) : j * k + m < n * k := by
  have : (j + 1) * k ≤ n * k := Nat.mul_le_mul_right k hj
  rw [Nat.add_mul] at this
  omega

theorem RowOk.rel {k : Nat} {vs : Array Value} {xs : List (List D)} {b cap : Nat} {T : TypeId} (h : RowOk dp F G w k vs xs) (hb : w.heap[b]? = some (.cells vs T (0, 0))) (hF : ∀ o, o < xs.length * k → F b o)
    (hcap : xs.length ≤ cap) {ow : Own} (ho : OwnOk G b (0 + xs.length * k) (0 + cap * k) cap ow) : Rel dp F G w (.slice (some ⟨b, 0, none⟩) xs.length cap) (.sl k false xs ow) := by
  refine .sl k xs ow b 0 cap (fun j m => vs.getD (j * k + m) undef) h.1 hcap (fun j x m d hx hd => ?_) (fun j x m d hx hd => ?_) ho
  · obtain ⟨v, h1, h2, h3⟩ := h.2 j x m d hx hd
    have hj := (List.getElem?_eq_some_iff.1 hx).1
    have hm : m < k := by
      have := (List.getElem?_eq_some_iff.1 hd).1
      rw [h.1 x (List.mem_of_getElem? hx)] at this
      exact this
    have hv : vs.getD (j * k + m) undef = v := by simp [h1]
    rw [hv, Nat.zero_add]
    exact ⟨hF _ (lt_mul hj hm), by rw [cell_box hb, h1], h2⟩
  · obtain ⟨v, h1, h2, h3⟩ := h.2 j x m d hx hd
    have hv : vs.getD (j * k + m) undef = v := by simp [h1]
    rw [hv]
    exact h3

def addRow (F : Fix) (b n : Nat) : Fix := fun b' o => F b' o ∨ (b' = b ∧ o < n)

/-- A new row, to which may be appended. -/
theorem Sim.pushRow (hs : Sim dp F G w S) {k cap : Nat} {vs : Array Value} {xs : List (List D)} {T : TypeId} (hg : Grown w (.cells vs T (0, 0)) w') (h : RowOk dp F G w k vs xs) (hsz : vs.size = cap * k) (hcap : xs.length ≤ cap)
    {S0 : Store} (hl0 : S0.length = S.length) (h0 : ∀ id e, sget S0 id = some e → sget S id = some e ∨ ¬ holds e) :
    (Sim dp (addRow F w.heap.size (xs.length * k)) (⟨w.heap.size, xs.length * k, cap * k⟩ :: G) w' (.tok true :: S0) ∧
      Ext F G w S (addRow F w.heap.size (xs.length * k)) (⟨w.heap.size, xs.length * k, cap * k⟩ :: G) w' (.tok true :: S0)) ∧
    Rel dp (addRow F w.heap.size (xs.length * k)) (⟨w.heap.size, xs.length * k, cap * k⟩ :: G) w' (.slice (some ⟨w.heap.size, 0, none⟩) xs.length cap) (.sl k false xs (.tok S0.length)) := by
  have hle : xs.length * k ≤ cap * k := Nat.mul_le_mul_right k hcap
  refine ⟨hs.push hg hl0 h0 ⟨w.heap.size, xs.length * k, cap * k⟩ rfl (.tok true) (fun _ _ h => .inl h) (fun b o h => ?_) ⟨vs, T, hg.new, ?_, fun o ho hF => ?_⟩, ?_⟩
  · rcases h with h | ⟨rfl, h⟩
    · exact .inl h
    · exact .inr ⟨rfl, vs[o]'(by omega), by rw [cell_new hg]; exact Array.getElem?_eq_getElem _⟩
  · show cap * k ≤ vs.size
    omega
  · rcases hF with hF | ⟨_, hF⟩
    · have := hs.fix_lt hF
      simp at this
    · simp only at ho
      omega
  · refine RowOk.rel (h.mono (fun _ _ h => .inl h) (fun id g h => by rw [sget_cons _ _ _ (sget_lt h)]; exact h) fun b o hF => hg.cell (hs.fix_lt hF)) hg.new (fun o ho => .inr ⟨rfl, ho⟩) hcap ?_
    simp only [OwnOk, Nat.zero_add]
    rw [hl0, ← hs.len, sget_top]

/-- A new row that stays as it is. -/
theorem Sim.fixRow (hs : Sim dp F G w S) {k cap : Nat} {vs : Array Value} {xs : List (List D)} {T : TypeId} (hg : Grown w (.cells vs T (0, 0)) w') (h : RowOk dp F G w k vs xs) (hsz : vs.size = cap * k) (hcap : xs.length ≤ cap)
    {ow : Own} (how : ow = .ro ∨ (ow = .cap0 ∧ cap = 0)) :
    (Sim dp (addRow F w.heap.size (xs.length * k)) G w' S ∧ Ext F G w S (addRow F w.heap.size (xs.length * k)) G w' S) ∧
    Rel dp (addRow F w.heap.size (xs.length * k)) G w' (.slice (some ⟨w.heap.size, 0, none⟩) xs.length cap) (.sl k false xs ow) := by
  have hle : xs.length * k ≤ cap * k := Nat.mul_le_mul_right k hcap
  refine ⟨hs.fixed hg (fun _ _ h => .inl h) (fun b o h => ?_), ?_⟩
  · rcases h with h | ⟨rfl, h⟩
    · exact .inl h
    · exact .inr ⟨rfl, vs[o]'(by omega), by rw [cell_new hg]; exact Array.getElem?_eq_getElem _⟩
  · refine RowOk.rel (h.mono (fun _ _ h => .inl h) (fun id g h => h) fun b o hF => hg.cell (hs.fix_lt hF)) hg.new (fun o ho => .inr ⟨rfl, ho⟩) hcap ?_
    rcases how with rfl | ⟨rfl, h⟩
    · trivial
    · exact h

theorem fold_get {off : Nat} : ∀ (l : List Value) (n : Nat) (vs : Array Value) (p : Nat), off + n + l.length ≤ vs.size →
    ((l.zipIdx n).foldl (fun cs (x : Value × Nat) => cs.setIfInBounds (off + x.2) x.1) vs)[p]? = if off + n ≤ p ∧ p < off + n + l.length then l[p - (off + n)]? else vs[p]?
  | [], n, vs, p, _ => by
    rw [if_neg (by simp only [List.length_nil]; omega)]; rfl
  | v :: l, n, vs, p, h => by
    simp only [List.length_cons] at h
    simp only [List.zipIdx_cons, List.foldl_cons]
    rw [fold_get l (n + 1) _ p (by simp; omega)]
    by_cases h1 : p = off + n
    · subst h1
      rw [if_neg (by omega), if_pos (by simp)]
      simp [show off + n < vs.size by omega]
    · by_cases h2 : off + n ≤ p ∧ p < off + n + (v :: l).length
      · simp only [List.length_cons] at h2
        rw [if_pos (by omega), if_pos (by simp; omega)]
        rw [show p - (off + n) = (p - (off + (n + 1))) + 1 by omega]
        rfl
      · simp only [List.length_cons] at h2
        rw [if_neg (by omega), if_neg (by simp; omega), Array.getElem?_setIfInBounds_ne (Ne.symm h1)]

theorem fill_elems {k : Nat} {g : Bool} {e : TypeId} (hf : Fr dp F G w a fr) (hT : mT P e k g = true) :
    ∀ {parts : List (Nat × Operand)} {ys : List A} {n : Nat} {cells : Array Value} {l : List (List D)}, mElems dp k g n parts ys = true → cellsAll fr k g ys = some l → (n + ys.length) * k ≤ cells.size →
    ∃ cells', Instr.fill (fun i => some (i * k, k)) cells (parts.map fun (i, x) => (i, a.eval x)) = some cells' ∧ cells'.size = cells.size ∧ l.length = ys.length ∧ (∀ p, p < n * k → cells'[p]? = cells[p]?) ∧
      (∀ x ∈ l, x.length = k) ∧ ∀ (j : Nat) (x : List D) (m : Nat) (d : D), l[j]? = some x → x[m]? = some d → ∃ v, cells'[(n + j) * k + m]? = some v ∧ v.oneCell' = true ∧ Rel dp F G w v d
  | [], [], n, cells, l, _, hc, _ => by
    simp only [cellsAll] at hc
    injection hc with hc; subst hc
    exact ⟨cells, rfl, rfl, rfl, fun _ _ => rfl, by simp, fun j x m d h => by simp at h⟩
  | [], _ :: _, _, _, _, hm, _, _ => by simp [mElems] at hm
  | _ :: _, [], _, _, _, hm, _, _ => by simp [mElems] at hm
  | (i, x) :: parts, y :: ys, n, cells, l, hm, hc, hsz => by
    simp only [mElems, Bool.and_eq_true, beq_iff_eq] at hm
    obtain ⟨⟨rfl, h2⟩, h3⟩ := hm
    simp only [cellsAll] at hc
    split at hc
    · rename_i ds r hds hr
      injection hc with hc; subst hc
      obtain ⟨l1, l2, l3⟩ := cellsK_rel (hf.eval h2) hds
      rw [mT_k hT] at l1
      simp only [List.length_cons] at hsz
      have hsz1 : (i + 1) * k ≤ cells.size := Nat.le_trans (Nat.mul_le_mul_right k (by omega)) hsz
      rw [Nat.add_mul] at hsz1
      have hfold := size_fold (off := i * k) ((a.eval x).cells.toList.zipIdx 0) cells
      obtain ⟨cells', c1, c2, c3, c4, c5, c6⟩ := fill_elems hf hT h3 hr (cells := ((a.eval x).cells.toList.zipIdx 0).foldl (fun cs (x : Value × Nat) => cs.setIfInBounds (i * k + x.2) x.1) cells)
        (by rw [hfold]; refine Nat.le_trans (Nat.mul_le_mul_right k ?_) hsz; omega)
      have hn : ¬ ((a.eval x).cells.size ≠ k ∨ i * k + (a.eval x).cells.size > cells.size) := by rw [l2, l1]; omega
      refine ⟨cells', ?_, by rw [c2, hfold], by simp [c3], ?_, ?_, ?_⟩
      · simp only [List.map_cons, Instr.fill]
        rw [if_neg (by simpa using hn), fold_arr]
        exact c1
      · intro p hp
        rw [c4 p (by rw [Nat.add_mul]; omega), fold_get _ _ _ _ (by simp [l2, l1]; omega), if_neg (by omega)]
      · intro z hz
        simp only [List.mem_cons] at hz
        rcases hz with rfl | hz
        · exact l1
        · exact c5 z hz
      · intro j z m d hz hd
        match j with
        | 0 =>
          simp at hz; subst hz
          have hm := (List.getElem?_eq_some_iff.1 hd).1
          have hm' : m < (a.eval x).cells.size := by omega
          refine ⟨(a.eval x).cells[m], ?_, ?_⟩
          · rw [Nat.add_zero, c4 _ (by rw [Nat.add_mul]; omega), fold_get _ _ _ _ (by simp [l2, l1]; omega), if_pos (by simp; omega)]
            simp [hm']
          · obtain ⟨a1, a2⟩ := l3 m _ d (Array.getElem?_eq_getElem hm') hd
            exact ⟨(rel_oneCell a1 a2).1, a1⟩
        | j + 1 =>
          obtain ⟨v, a1, a2⟩ := c6 j z m d (by simpa using hz) hd
          exact ⟨v, by rw [show i + (j + 1) = i + 1 + j by omega]; exact a1, a2⟩
    · cases hc

theorem cellsAll_length {k : Nat} {g : Bool} : ∀ {ys : List A} {l : List (List D)}, cellsAll fr k g ys = some l → l.length = ys.length
  | [], l, h => by simp only [cellsAll] at h; injection h with h; subst h; rfl
  | y :: ys, l, h => by
    simp only [cellsAll] at h
    split at h
    · rename_i h1 h2
      injection h with h; subst h
      simp [cellsAll_length h2]
    · cases h

/-- What a slice literal gives. -/
def bslRes (k : Nat) (own : Bool) (l : List (List D)) (S : Store) : D × Store :=
  if own then (if l.isEmpty then (.sl k false [] .cap0, S) else (.sl k false l (.tok S.length), .tok true :: S)) else (.sl k false l .ro, S)

theorem ok_bsl {k : Nat} {g own : Bool} {ys : List A} {l : List (List D)} (hm : mR P dp o.op (.bsl k g own ys) = true) (hs : Sim dp F G w S) (hf : Fr dp F G w a fr) (he : cellsAll fr k g ys = some l) :
    OpOk P dp F G w S a o (bslRes k own l S).1 (bslRes k own l S).2 := by
  simp only [mR] at hm
  split at hm
  · rename_i t len parts ho
    split at hm
    · rename_i e hu
      simp only [Bool.and_eq_true, decide_eq_true_eq, beq_iff_eq] at hm
      obtain ⟨⟨⟨⟨⟨⟨hT, hk0⟩, hk1⟩, rfl⟩, hlen⟩, hz⟩, hel⟩ := hm
      obtain ⟨ie, hie, hsz⟩ := mT_size hT
      rw [hie] at hz
      dsimp only at hz
      split at hz
      · rename_i z hzv
        simp only [beq_iff_eq] at hz
        have hl := cellsAll_length he
        obtain ⟨cells', c1, c2, c3, c4, c5, c6⟩ := fill_elems (P := P) (cells := (Array.range (ys.length * ie.size)).map (z.cells[· % z.cells.size]!)) hf hT hel he (by simp [hsz])
        have hrow : RowOk dp F G w k cells' l := ⟨c5, fun j x m d hx hd => by simpa using c6 j x m d hx hd⟩
        have hcs : cells'.size = l.length * k := by rw [c2, hl]; simp [hsz]
        have hrun : (execOp a.eval o).run P w = .ok (.value (.slice (some ⟨w.heap.size, 0, none⟩) l.length l.length)) (w.alloc (.cells cells' e)) := by
          by_cases h0 : ys.length = 0
          · have hy : ys = [] := List.eq_nil_of_length_eq_zero h0
            subst hy
            have hp : parts.toList = [] := by
              cases hp : parts.toList with
              | nil => rfl
              | cons x l => rw [hp] at hel; simp [mElems] at hel
            have hp' : parts = #[] := by simpa using hp
            subst hp'
            have hcells : cells' = #[] := by
              rw [← Array.size_eq_zero_iff, hcs, hl]; simp
            rw [hl]
            simp [execOp, ho, Instr.buildSlice, run_underlying hu, sizeOf, typeInfo, hie, Instr.fill, newRow, hcells, Array.range_zero']
          · have hb := run_buildSlice (P := P) w t e ys.length (parts.map fun (i, x) => (i, a.eval x)) cells' ie z hu hie hzv (by
              rw [hsz]
              have : ys.length * k ≤ 1024 * 4096 := Nat.mul_le_mul hlen hk1
              omega) (by rw [hsz]; exact Nat.mul_ne_zero h0 (by omega)) (by rw [hsz]; rw [hsz] at c1; simpa using c1)
            rw [hl]
            simp only [execOp, ho, Sem.run_bind, hb, Result.andThen, Sem.run_pure]
        unfold bslRes
        cases own with
        | false =>
          obtain ⟨h1, h2⟩ := hs.fixRow (grown_alloc _ _) hrow hcs (Nat.le_refl _) (ow := .ro) (.inl rfl)
          exact opOk_value hrun h1 h2
        | true =>
          simp only [if_true]
          split
          · rename_i hemp
            have hl0 : l = [] := by simpa using hemp
            subst hl0
            obtain ⟨h1, h2⟩ := hs.fixRow (grown_alloc _ _) hrow hcs (Nat.le_refl _) (ow := .cap0) (.inr ⟨rfl, rfl⟩)
            exact opOk_value hrun h1 h2
          · obtain ⟨h1, h2⟩ := hs.pushRow (grown_alloc _ _) hrow hcs (Nat.le_refl _) rfl (fun _ _ h => .inl h)
            exact opOk_value hrun h1 h2
      · cases hz
    · cases hm
  · cases hm

end

end Go.Proofs.YtjlmeikcfdanmaaGreatDoor.DE
