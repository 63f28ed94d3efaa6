/-
  SLICE EXPRESSIONS, ARITHMETIC AND COMPARISONS, LOOK-UPS, LITERALS: operations that leave the world alone, continued.
-/
import Derived.Test.YtjlmeikcfdanmaaGreatDoorDe6
import Derived.Test.YtjlmeikcfdanmaaGreatDoorDe7
namespace Go.Proofs.YtjlmeikcfdanmaaGreatDoor.DE
open Go

section
variable {P : Program} {dp : Nat → Option Fn} {F F' : Fix} {G G' : List Gh} {w w' : World} {S S' : Store} {a : Act} {fr : List D} {o : Oper} {d : D}

theorem Fr.evalo {a : Act} {fr : List D} (h : Fr dp F G w a fr) {x : Option Operand} {y : Option A} (hm : mAo dp x y = true) :
    (x = none ∧ avo fr y = none) ∨ ∃ u v, x.map a.eval = some u ∧ avo fr y = some v ∧ Rel dp F G w u v := by
  unfold mAo at hm
  split at hm
  · exact .inl ⟨rfl, rfl⟩
  · exact .inr ⟨_, _, rfl, rfl, h.eval hm⟩
  · cases hm

theorem run_bounds {isS : Bool} {n cap l h : Nat} {lo hi : Option D} {x y : Option Value} (hb : bounds n lo hi = some (l, h)) (hn : n ≤ cap)
    (hx : (x = none ∧ lo = none) ∨ ∃ u v, x = some u ∧ lo = some v ∧ Rel dp F G w u v) (hy : (y = none ∧ hi = none) ∨ ∃ u v, y = some u ∧ hi = some v ∧ Rel dp F G w u v) :
    (Instr.sliceBounds isS n cap x y none).run P w = .ok (l, h, cap) w ∧ l ≤ h ∧ h ≤ n := by
  have sb : ∀ (code : BoundsCode) (k : IntKind) (i : Int) (m : Nat), 0 ≤ i → i ≤ m → (Instr.sliceBound (.int k i) m code).run P w = .ok i.toNat w := by
    intro code k i m h0 h1
    simp only [Instr.sliceBound, asIntOf, Sem.run_bind, Sem.run_pure, Result.andThen, if_pos (And.intro h0 h1)]
  rcases hy with ⟨rfl, rfl⟩ | ⟨u, v, rfl, rfl, hru⟩
  · rcases hx with ⟨rfl, rfl⟩ | ⟨u', v', rfl, rfl, hru'⟩
    · simp only [bounds] at hb
      injection hb with hb
      injection hb with h1 h2
      subst h1 h2
      exact ⟨by simp [Instr.sliceBounds], by omega, by omega⟩
    · cases hru' <;> simp only [bounds] at hb <;> try (cases hb; done)
      rename_i k i
      split at hb
      · rename_i hc
        injection hb with hb
        injection hb with h1 h2
        subst h1 h2
        refine ⟨?_, by omega, by omega⟩
        simp only [Instr.sliceBounds, Sem.run_bind, Sem.run_pure, Result.andThen, Option.isSome_none, Bool.false_eq_true, if_false, sb _ _ _ _ hc.1 hc.2]
      · cases hb
  · cases hru <;> simp only [bounds] at hb <;> try (cases hb; done)
    rename_i k i
    split at hb
    · rename_i hc
      rcases hx with ⟨rfl, rfl⟩ | ⟨u', v', rfl, rfl, hru'⟩
      · injection hb with hb
        injection hb with h1 h2
        subst h1 h2
        refine ⟨?_, by omega, by omega⟩
        cases isS <;> simp [Instr.sliceBounds, sb _ _ _ _ hc.1 (show i ≤ (cap : Int) by omega)]
      · cases hru' <;> simp only at hb <;> try (cases hb; done)
        rename_i k' i'
        split at hb
        · rename_i hc'
          injection hb with hb
          injection hb with h1 h2
          subst h1 h2
          refine ⟨?_, by omega, by omega⟩
          cases isS <;> simp [Instr.sliceBounds, sb _ _ _ _ hc.1 (show i ≤ (cap : Int) by omega), sb _ _ _ _ hc'.1 (show i' ≤ (i.toNat : Int) by omega)]
        · cases hb
    · cases hb

theorem bounds_hyp {a : Act} {fr : List D} (hf : Fr dp F G w a fr) {x : Option Operand} {y : Option A} (hm : mAo dp x y = true) :
    (x.map a.eval = none ∧ avo fr y = none) ∨ ∃ u v, x.map a.eval = some u ∧ avo fr y = some v ∧ Rel dp F G w u v := by
  rcases hf.evalo hm with ⟨rfl, e⟩ | e
  · exact .inl ⟨rfl, e⟩
  · exact .inr e

theorem pur_slc {y : A} {lo hi : Option A} {k : Nat} (hm : mR P dp o.op (.slc k y lo hi) = true) (hf : Fr dp F G w a fr) (he : slcD k (av fr y) (avo fr lo) (avo fr hi) = some d) : Pur P dp F G w a o d := by
  simp only [mR] at hm
  split at hm
  · rename_i t x l h ho
    simp only [Bool.and_eq_true] at hm
    obtain ⟨⟨⟨hU, hx⟩, hl⟩, hh⟩ := hm
    have hr := hf.eval hx
    have hlo' := bounds_hyp hf hl
    have hhi' := bounds_hyp hf hh
    generalize hv : a.eval x = v at hr
    generalize av fr y = e at hr he
    unfold mU at hU
    split at hU
    · rename_i td htd
      unfold isSliceOf at hU
      split at hU
      · rename_i el
        unfold slcD at he
        split at he
        · rename_i k' nl xs ow
          split at he
          · rename_i hk
            subst hk
            split at he
            · rename_i p q hb
              injection he with he
              subst he
              cases hr with
              | nil =>
                obtain ⟨e1, e2, e3⟩ := run_bounds (P := P) (isS := true) (cap := 0) hb (Nat.le_refl _) hlo' hhi'
                simp only [List.length_nil] at e1 e3
                obtain rfl : q = 0 := by omega
                obtain rfl : p = 0 := by omega
                refine ⟨.slice none 0 0, ?_, by simpa using Rel.nil (dp := dp) (F := F) (G := G) (w := w) k' .ro⟩
                simp only [execOp, ho, hv, Instr.sliceAt, Sem.run_bind, run_underlying htd, Result.andThen, Instr.slice, Option.map_none, e1, run_sizeOf_of hU w, Sem.run_pure, if_true, Nat.sub_self]
              | sl k xs o blk off cap c hkl hcap h1 h2 hown =>
                obtain ⟨e1, e2, e3⟩ := run_bounds (P := P) (isS := true) hb hcap hlo' hhi'
                have hlen : ((xs.drop p).take (q - p)).length = q - p := by simp; omega
                have hget : ∀ (j : Nat) (z : List D), ((xs.drop p).take (q - p))[j]? = some z → xs[p + j]? = some z := by
                  intro j z hz
                  have hj := (List.getElem?_eq_some_iff.1 hz).1
                  rw [hlen] at hj
                  rwa [List.getElem?_take_of_lt hj, List.getElem?_drop] at hz
                refine ⟨.slice (some ⟨blk, if cap = p then off else off + p * k', none⟩) (q - p) (cap - p), ?_, ?_⟩
                · simp only [execOp, ho, hv, Instr.sliceAt, Sem.run_bind, run_underlying htd, Result.andThen, Instr.slice, Option.map_none, e1, run_sizeOf_of hU w, Sem.run_pure]
                  split
                  · rfl
                  · simp [addr_add]
                · have := Rel.sl (dp := dp) (F := F) (G := G) (w := w) k' ((xs.drop p).take (q - p)) .ro blk (if cap = p then off else off + p * k') (cap - p) (fun j m => c (p + j) m)
                    (fun z hz => hkl z (List.mem_of_mem_drop (List.mem_of_mem_take hz))) (by rw [hlen]; omega)
                    (fun j z m e hz hme => by
                      have hj := (List.getElem?_eq_some_iff.1 hz).1
                      rw [hlen] at hj
                      have := h1 (p + j) z m e (hget j z hz) hme
                      rw [if_neg (by omega), show off + p * k' + j * k' + m = off + (p + j) * k' + m by rw [Nat.add_mul]; omega]
                      exact this)
                    (fun j z m e hz hme => h2 (p + j) z m e (hget j z hz) hme) trivial
                  rwa [hlen] at this
            · cases he
          · cases he
        · rename_i k' id oo n
          split at he
          · rename_i hk
            subst hk
            split at he
            · rename_i p q hb
              cases hr with
              | ar k id o n cap g hg hn =>
                obtain ⟨e1, e2, e3⟩ := run_bounds (P := P) (isS := true) hb hn hlo' hhi'
                have run : (execOp a.eval o).run P w = .ok (.value (.slice (some ⟨g.blk, if cap = p then oo else oo + p * k', none⟩) (q - p) (cap - p))) w := by
                  simp only [execOp, ho, hv, Instr.sliceAt, Sem.run_bind, run_underlying htd, Result.andThen, Instr.slice, Option.map_none, e1, run_sizeOf_of hU w, Sem.run_pure]
                  split
                  · rfl
                  · simp [addr_add]
                split at he
                · rename_i hqp
                  subst hqp
                  injection he with he
                  subst he
                  refine ⟨_, run, ?_⟩
                  rw [Nat.sub_self]
                  exact Rel.sl k' [] .ro g.blk _ _ (fun _ _ => undef) (fun z hz => by simp at hz) (Nat.zero_le _) (fun j z m e hz => by simp at hz) (fun j z m e hz => by simp at hz) trivial
                · injection he with he
                  subst he
                  refine ⟨_, run, ?_⟩
                  rw [if_neg (by omega)]
                  exact .ar k' id _ _ _ g hg (by omega)
            · cases he
          · cases he
        · cases he
      · cases hU
    · cases hU
  · cases hm

theorem pur_slcs {y : A} {lo hi : Option A} (hm : mR P dp o.op (.slcs y lo hi) = true) (hf : Fr dp F G w a fr) (he : slcsD (av fr y) (avo fr lo) (avo fr hi) = some d) : Pur P dp F G w a o d := by
  simp only [mR] at hm
  split at hm
  · rename_i t x l h ho
    simp only [Bool.and_eq_true] at hm
    obtain ⟨⟨⟨hU, hx⟩, hl⟩, hh⟩ := hm
    have hr := hf.eval hx
    have hlo' := bounds_hyp hf hl
    have hhi' := bounds_hyp hf hh
    generalize hv : a.eval x = v at hr
    generalize av fr y = e at hr he
    unfold mU at hU
    split at hU
    · rename_i td htd
      unfold isString at hU
      split at hU
      · unfold slcsD at he
        split at he
        · rename_i l'
          split at he
          · rename_i p q hb
            injection he with he
            subst he
            cases hr
            have hsz : (⟨l'.toArray⟩ : ByteArray).size = l'.length := by show l'.toArray.size = _; simp
            obtain ⟨e1, e2, e3⟩ := run_bounds (P := P) (isS := false) (cap := l'.length) hb (Nat.le_refl _) hlo' hhi'
            have hex : (⟨l'.toArray⟩ : ByteArray).extract p q = ⟨((l'.drop p).take (q - p)).toArray⟩ := by
              apply ByteArray.ext
              rw [ByteArray.data_extract]
              apply Array.ext'
              simp
            refine ⟨.string ⟨((l'.drop p).take (q - p)).toArray⟩, ?_, .s _⟩
            simp only [execOp, ho, hv, Instr.sliceAt, Sem.run_bind, run_underlying htd, Result.andThen, Instr.slice, Option.map_none, Option.isSome_none, Bool.false_eq_true, if_false, hsz, e1, Sem.run_pure, hex]
          · cases he
        · cases he
      · cases hU
    · cases hU
  · cases hm

end

end Go.Proofs.YtjlmeikcfdanmaaGreatDoor.DE
