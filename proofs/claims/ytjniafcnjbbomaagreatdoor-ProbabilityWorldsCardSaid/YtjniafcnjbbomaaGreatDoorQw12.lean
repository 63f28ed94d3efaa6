/-
  SEVERAL TEXTS IN ONE (joined by tools/asm3.py of this repository): Ha, Ea.
-/
import Derived.Test.YtjniafcnjbbomaaGreatDoorQw4
import Derived.Test.YtjniafcnjbbomaaGreatDoorQw6
import Derived.Test.YtjniafcnjbbomaaGreatDoorQw8
import Derived.Test.YtjniafcnjbbomaaGreatDoorQw11
import Derived.Test.YtjniafcnjbbomaaGreatDoorRows
import Derived.ProofKit
import Derived.Deep.Slices
import Derived.Deep.Strs
import Derived.KernelRfl
set_option linter.unusedVariables false
set_option linter.unusedSimpArgs false
namespace Go.Proofs.YtjniafcnjbbomaaGreatDoor.DE.V
open Go Go.ChangeShapes Go.WideShapes Go.RowKit
set_option maxRecDepth 100000
set_option linter.unusedVariables false
set_option linter.unusedSimpArgs false

/-- Each cell that is there. -/
def there (w : World) : Fix := fun b o => ∃ v, w.cell? ⟨b, o, none⟩ = some v

theorem sim0 {dp : Nat → Option Fn} (w : World) : Sim dp (there w) [] w [] :=
  ⟨rfl, fun _ _ h => h, fun _ _ _ h => by (cases h), fun _ _ _ _ _ _ _ h => by (cases h)⟩

section
variable {H : Type} {enc : TypeId × Value → H} {w : World} {base : Nat} {spare : Nat → Bool} {held : Bool} {fuel : Nat} {cs : List Value} {x : DataW H × List MemPlace}

theorem wf64 {n : Int} (h : (Lit.int .i64 n).wf = true) : in64 n := by
  simp only [Lit.wf, Bool.and_eq_true, decide_eq_true_eq] at h
  exact h

theorem rd_int (h : DataW.trod enc Tryz.prog w base spare held fuel 3 cs = some x) : ∃ n, cs = [.int .i64 n] ∧ in64 n := by
  obtain ⟨n, h1, _, h2⟩ := DataW.trod_int Tryz.underlying3 h
  exact ⟨n, h1, wf64 h2⟩


end

theorem list_of {α : Type} {p : Nat → α → Prop} : ∀ n, (∀ i, i < n → ∃ x, p i x) → ∃ l : List α, l.length = n ∧ ∀ i x, l[i]? = some x → p i x
  | 0, _ => ⟨[], rfl, fun _ _ h => by simp at h⟩
  | n + 1, h => by
    obtain ⟨l, h1, h2⟩ := list_of n fun i hi => h i (by omega)
    obtain ⟨x, hx⟩ := h n (by omega)
    refine ⟨l ++ [x], by simp [h1], fun i y hy => ?_⟩
    rw [List.getElem?_append] at hy
    split at hy
    · exact h2 i y hy
    · rename_i hlt
      have : i = l.length := by
        have := (List.getElem?_eq_some_iff.1 hy).1
        simp at this; omega
      subst this
      simp at hy; subst hy; rw [h1]; exact hx

/-- Cells and what they say. -/
def RelL (dp : Nat → Option Fn) (w : World) (cs : List Value) (ds : List D) : Prop := cs.length = ds.length ∧ ∀ (m : Nat) (v : Value) (d : D), cs[m]? = some v → ds[m]? = some d → v.oneCell' = true ∧ Rel dp (there w) [] w v d

section
variable {dp : Nat → Option Fn} {w : World}
theorem RelL.nil : RelL dp w [] [] := ⟨rfl, fun _ _ _ h => by simp at h⟩
theorem RelL.cons {v : Value} {d : D} {cs : List Value} {ds : List D} (h1 : v.oneCell' = true) (h2 : Rel dp (there w) [] w v d) (h : RelL dp w cs ds) : RelL dp w (v :: cs) (d :: ds) :=
  ⟨by simp [h.1], fun m u e hu he => by
    match m with
    | 0 => simp at hu he; subst hu he; exact ⟨h1, h2⟩
    | m + 1 => exact h.2 m u e (by simpa using hu) (by simpa using he)⟩
theorem RelL.app {cs cs' : List Value} {ds ds' : List D} (h : RelL dp w cs ds) (h' : RelL dp w cs' ds') : RelL dp w (cs ++ cs') (ds ++ ds') := by
  refine ⟨by simp [h.1, h'.1], fun m u e hu he => ?_⟩
  rw [List.getElem?_append] at hu he
  rw [h.1] at hu
  split at hu
  · rename_i hlt
    rw [if_pos hlt] at he
    exact h.2 m u e hu he
  · rename_i hlt
    rw [if_neg hlt] at he
    exact h'.2 _ u e hu he

variable {H : Type} {enc : TypeId × Value → H} {base : Nat} {spare : Nat → Bool} {held : Bool} {fuel : Nat} {cs : List Value} {x : DataW H × List MemPlace}

theorem rd_sliceG {t e k : Nat} {α : Type} (en : α → List D) (P : α → Prop) (ht : Tryz.prog.underlying t = some (.slice e)) (hk : Tryz.prog.cellsOf e = k) (hk0 : 0 < k) (hen : ∀ a, (en a).length = k)
    (helem : ∀ (n : Nat) (cs : List Value) (x : DataW H × List MemPlace), n < fuel → DataW.trod enc Tryz.prog w base spare held n e cs = some x → ∃ a, P a ∧ RelL dp w cs (en a))
    (h : DataW.trod enc Tryz.prog w base spare held fuel t cs = some x) :
    ∃ nl l v, (nl = true → l = []) ∧ (∀ a ∈ l, P a) ∧ l.length ≤ maxLen ∧ cs = [v] ∧ v.oneCell' = true ∧ Rel dp (there w) [] w v (.sl k nl (l.map en) .ro) := by
  rcases DataW.trod_slice ht h with ⟨rfl, _⟩ | ⟨a, len, cap, elems, rest, n, rfl, rfl, _, hb, hl, hm, hel, hx, _, _⟩
  · exact ⟨true, [], _, fun _ => rfl, fun _ h => by (cases h), Nat.zero_le _, rfl, rfl, .nil k .ro⟩
  · obtain ⟨l, hll, hl2⟩ := list_of (α := List Value × α) (p := fun i y => w.cells? base (a.add (i * k)) k = some y.1 ∧ P y.2 ∧ RelL dp w y.1 (en y.2)) len (fun i hi => by
      have h1 := hx i hi
      rw [hk] at h1
      obtain ⟨y, hy⟩ : ∃ y, elems[i]? = some y := ⟨_, List.getElem?_eq_getElem (by omega)⟩
      rw [hy] at h1
      cases hc : w.cells? base (a.add (i * k)) k with
      | none => rw [hc] at h1; cases h1
      | some cs' =>
        rw [hc] at h1
        obtain ⟨z, p1, p2⟩ := helem n cs' y (Nat.lt_succ_self n) h1
        exact ⟨(cs', z), rfl, p1, p2⟩)
    refine ⟨false, l.map (·.2), _, fun h => by (cases h), ?_, by simp; omega, rfl, rfl, ?_⟩
    · intro y hy
      obtain ⟨z, hz, rfl⟩ := List.mem_map.1 hy
      obtain ⟨i, hi⟩ := List.mem_iff_getElem?.1 hz
      exact (hl2 i z hi).2.1
    · rcases Nat.eq_zero_or_pos len with h0 | h0
      · subst h0
        have : l = [] := List.length_eq_zero_iff.1 hll
        subst this
        exact .emp k a cap
      · obtain ⟨blk, off, spot⟩ := a
        have hspot : spot = none := by
          obtain ⟨z, hz⟩ : ∃ z, l[0]? = some z := ⟨_, List.getElem?_eq_getElem (by omega)⟩
          obtain ⟨h1, _⟩ := hl2 0 z hz
          obtain ⟨_, hlen, h3⟩ := World.cells?_some h1
          have := h3 0 hk0
          have hz0 : z.1[0]? ≠ none := by
            intro hn
            rw [List.getElem?_eq_none_iff] at hn
            omega
          simp only [Nat.zero_mul, Addr.add, if_true] at this
          cases spot with
          | none => rfl
          | some b =>
            exfalso
            apply hz0
            rw [← this]
            unfold World.cell?
            split <;> simp_all
        subst hspot
        have hadd : ∀ i j, ((Addr.mk blk off none).add i).add j = ⟨blk, off + i + j, none⟩ := by
          intro i j
          unfold Addr.add
          by_cases hi : i = 0 <;> by_cases hj : j = 0 <;> simp [hi, hj, Nat.add_assoc]
        have hcell : ∀ i z, l[i]? = some z → ∀ j, j < k → w.cell? ⟨blk, off + i * k + j, none⟩ = z.1[j]? := by
          intro i z hz j hj
          obtain ⟨h1, _⟩ := hl2 i z hz
          obtain ⟨_, _, h3⟩ := World.cells?_some h1
          have := h3 j hj
          rwa [hadd] at this
        have hget : ∀ (j : Nat) (y : List D), ((l.map (·.2)).map en)[j]? = some y → ∃ z, l[j]? = some z ∧ y = en z.2 := by
          intro j y hj
          rw [List.getElem?_map, List.getElem?_map] at hj
          cases hz : l[j]? with
          | none => rw [hz] at hj; simp at hj
          | some z => rw [hz] at hj; simp at hj; exact ⟨z, rfl, hj.symm⟩
        have key := Rel.sl (dp := dp) (F := there w) (G := []) (w := w) k ((l.map (·.2)).map en) .ro blk off cap (fun j m => ((l[j]?).bind fun z => z.1[m]?).getD .nilIface)
          (by
            intro y hy
            obtain ⟨z, _, rfl⟩ := List.mem_map.1 hy
            exact hen _) (by simp; omega)
          (by
            intro j y m d hj hd
            obtain ⟨z, hz, rfl⟩ := hget j y hj
            have hmk : m < k := by
              have := (List.getElem?_eq_some_iff.1 hd).1
              rwa [hen] at this
            obtain ⟨_, _, hr⟩ := hl2 j z hz
            obtain ⟨v, hv⟩ : ∃ v, z.1[m]? = some v := ⟨_, List.getElem?_eq_getElem (by rw [hr.1, hen]; exact hmk)⟩
            have hc := hcell j z hz m hmk
            rw [hv] at hc
            simp only [hz, Option.bind_some, hv, Option.getD_some]
            exact ⟨⟨v, hc⟩, hc, (hr.2 m v d hv hd).1⟩)
          (by
            intro j y m d hj hd
            obtain ⟨z, hz, rfl⟩ := hget j y hj
            have hmk : m < k := by
              have := (List.getElem?_eq_some_iff.1 hd).1
              rwa [hen] at this
            obtain ⟨_, _, hr⟩ := hl2 j z hz
            obtain ⟨v, hv⟩ : ∃ v, z.1[m]? = some v := ⟨_, List.getElem?_eq_getElem (by rw [hr.1, hen]; exact hmk)⟩
            simp only [hz, Option.bind_some, hv, Option.getD_some]
            exact (hr.2 m v d hv hd).2)
          trivial
        have hlen : ((l.map (·.2)).map en).length = len := by simp [hll]
        rw [hlen] at key
        exact key


theorem cells40 : Tryz.prog.cellsOf 40 = 2 := by kernel_rfl
theorem cells3 : Tryz.prog.cellsOf 3 = 1 := by kernel_rfl
theorem cells30 : Tryz.prog.cellsOf 30 = 1 := by kernel_rfl
theorem cells32 : Tryz.prog.cellsOf 32 = 2 := by kernel_rfl
theorem cells65 : Tryz.prog.cellsOf 65 = 4 := by kernel_rfl
theorem cells135 : Tryz.prog.cellsOf 135 = 1 := by kernel_rfl

theorem rd_row (h : DataW.trod enc Tryz.prog w base spare held fuel 40 cs = some x) : ∃ r : Row, okRow r ∧ RelL dp w cs (eRow r) := by
  obtain ⟨y0, y1, n, _, hl, h0, h1⟩ := trod_struct2 Tryz.underlying40 h
  rw [cells40] at hl
  simp only [cells3] at h0 h1
  match cs, hl with
  | [a, b], _ =>
    obtain ⟨n0, e0, w0⟩ := rd_int h0
    obtain ⟨n1, e1, w1⟩ := rd_int h1
    simp at e0 e1
    subst e0 e1
    exact ⟨(n0, n1), ⟨w0, w1⟩, RelL.cons rfl (.i _ _) (RelL.cons rfl (.i _ _) RelL.nil)⟩

theorem rd_limb (h : DataW.trod enc Tryz.prog w base spare held fuel 135 cs = some x) : ∃ n : Nat, n < NL.B ∧ RelL dp w cs [.i .u32 (n : Int)] := by
  obtain ⟨n, rfl, _, h2⟩ := DataW.trod_int Tryz.underlying135 h
  simp only [Lit.wf, Bool.and_eq_true, decide_eq_true_eq, IntKind.min, IntKind.max, IntKind.signed, IntKind.bits] at h2
  obtain ⟨k, rfl⟩ : ∃ k : Nat, n = k := ⟨n.toNat, by simp at h2; omega⟩
  refine ⟨k, ?_, RelL.cons rfl (.i _ _) RelL.nil⟩
  simp at h2
  simp only [NL.B]
  omega

theorem rd_lims (h : DataW.trod enc Tryz.prog w base spare held fuel 30 cs = some x) : ∃ nl l v, (nl = true → l = []) ∧ NL.Lim l ∧ l.length ≤ maxLen ∧ cs = [v] ∧ v.oneCell' = true ∧ Rel dp (there w) [] w v (eLims nl l .ro) :=
  rd_sliceG (fun n : Nat => [D.i .u32 (n : Int)]) (fun n => n < NL.B) Tryz.underlying30 cells135 (by decide) (fun _ => rfl) (fun _ _ _ _ h => rd_limb h) h

theorem rd_q (h : DataW.trod enc Tryz.prog w base spare held fuel 32 cs = some x) : ∃ n1 a n2 b, NF n1 a ∧ NF n2 b ∧ NL.Lim a ∧ NL.Lim b ∧ RelL dp w cs [eLims n1 a .ro, eLims n2 b .ro] := by
  obtain ⟨y0, y1, n, _, hl, h0, h1⟩ := trod_struct2 Tryz.underlying32 h
  rw [cells32] at hl
  simp only [cells30] at h0 h1
  match cs, hl with
  | [a, b], _ =>
    obtain ⟨n1, l1, v1, g1, k1, _, e1, o1, r1⟩ := rd_lims (dp := dp) h0
    obtain ⟨n2, l2, v2, g2, k2, _, e2, o2, r2⟩ := rd_lims (dp := dp) h1
    simp at e1 e2
    subst e1 e2
    exact ⟨n1, l1, n2, l2, g1, g2, k1, k2, RelL.cons o1 r1 (RelL.cons o2 r2 RelL.nil)⟩

theorem rd_ch (h : DataW.trod enc Tryz.prog w base spare held fuel 65 cs = some x) : ∃ c : Ch, (NF c.2.1.1 c.num ∧ NF c.2.2.1 c.den ∧ NL.Lim c.num ∧ NL.Lim c.den) ∧ RelL dp w cs (eCh c) := by
  obtain ⟨y0, y1, n, _, hl, h0, h1⟩ := trod_struct2 Tryz.underlying65 h
  rw [cells65] at hl
  simp only [cells40, cells32] at h0 h1
  match cs, hl with
  | [a, b, c, d], _ =>
    obtain ⟨r, _, q0⟩ := rd_row (dp := dp) h0
    obtain ⟨n1, l1, n2, l2, g1, g2, k1, k2, q1⟩ := rd_q (dp := dp) h1
    exact ⟨(r, (n1, l1), (n2, l2)), ⟨g1, g2, k1, k2⟩, q0.app q1⟩

theorem rd_rows (h : DataW.trod enc Tryz.prog w base spare held fuel 22 cs = some x) : ∃ nl l v, (nl = true → l = []) ∧ (∀ a ∈ l, okRow a) ∧ l.length ≤ maxLen ∧ cs = [v] ∧ v.oneCell' = true ∧ Rel dp (there w) [] w v (eRows nl l) :=
  rd_sliceG eRow okRow Tryz.underlying22 cells40 (by decide) (fun _ => rfl) (fun _ _ _ _ h => rd_row h) h
theorem rd_chs (h : DataW.trod enc Tryz.prog w base spare held fuel 26 cs = some x) : ∃ nl l v, (nl = true → l = []) ∧ (∀ c ∈ l, NF c.2.1.1 c.num ∧ NF c.2.2.1 c.den ∧ NL.Lim c.num ∧ NL.Lim c.den) ∧ l.length ≤ maxLen ∧ cs = [v] ∧ v.oneCell' = true ∧ Rel dp (there w) [] w v (eChs nl l) :=
  rd_sliceG eCh _ Tryz.underlying26 cells65 (by decide) (fun _ => rfl) (fun _ _ _ _ h => rd_ch h) h

variable {r : Reach} {b0 : Nat} {v : Value} {d : DataW H} {ps : List MemPlace}
theorem rd_rowsArg (hv : Value.okWide Tryz.prog w r b0 22 v) (h : DataW.Trod enc Tryz.prog w base spare held 22 v d ps) :
    ∃ nl ord, (nl = true → ord = []) ∧ (∀ a ∈ ord, okRow a) ∧ ord.length ≤ maxLen ∧ Rel dp (there w) [] w v (eRows nl ord) := by
  obtain ⟨fuel, h⟩ := h
  simp only [Value.okWide, Tryz.underlying22] at hv
  have hc : v.cells.toList = [v] := by
    cases v <;> first | rfl | (simp only [Cell.okWide, Tryz.underlying22, Cell.ok] at hv)
  rw [hc] at h
  obtain ⟨nl, ord, va, g1, g2, g3, e1, _, r1⟩ := rd_rows (dp := dp) h
  injection e1 with e1
  subst e1
  exact ⟨nl, ord, g1, g2, g3, r1⟩

theorem rd_chsArg (hv : Value.okWide Tryz.prog w r b0 26 v) (h : DataW.Trod enc Tryz.prog w base spare held 26 v d ps) :
    ∃ nl l, (nl = true → l = []) ∧ (∀ c ∈ l, NF c.2.1.1 c.num ∧ NF c.2.2.1 c.den ∧ NL.Lim c.num ∧ NL.Lim c.den) ∧ l.length ≤ maxLen ∧ Rel dp (there w) [] w v (eChs nl l) := by
  obtain ⟨fuel, h⟩ := h
  simp only [Value.okWide, Tryz.underlying26] at hv
  have hc : v.cells.toList = [v] := by
    cases v <;> first | rfl | (simp only [Cell.okWide, Tryz.underlying26, Cell.ok] at hv)
  rw [hc] at h
  obtain ⟨nl, ord, va, g1, g2, g3, e1, _, r1⟩ := rd_chs (dp := dp) h
  injection e1 with e1
  subst e1
  exact ⟨nl, ord, g1, g2, g3, r1⟩

theorem rd_rowArg (hv : Value.okWide Tryz.prog w r b0 40 v) (h : DataW.Trod enc Tryz.prog w base spare held 40 v d ps) :
    ∃ a : Row, okRow a ∧ Rel dp (there w) [] w v (.agg (eRow a)) := by
  obtain ⟨fuel, h⟩ := h
  simp only [Value.okWide, Tryz.underlying40] at hv
  obtain ⟨cs, rfl, _, _⟩ := hv
  obtain ⟨a, ho, e⟩ := rd_row (dp := dp) h
  exact ⟨a, ho, .agg _ _ (by have := e.1; simpa [Value.cells] using this) fun j v d hv hd => (e.2 j v d (by simpa [Value.cells] using hv) hd).2⟩

end

end Go.Proofs.YtjniafcnjbbomaaGreatDoor.DE.V

namespace Go.Proofs.YtjniafcnjbbomaaGreatDoor.DE
open Go

/-- Calls that are known: the function, the arguments, the answer. -/
abbrev Known := List (Nat × List D × D)

def klook : Known → Nat → Nat → List D → Option (Nat × D)
  | [], _, _, _ => none
  | (g', a, r) :: l, i, g, args => if g' == g && deqL a args then some (i, r) else klook l (i + 1) g args

/-- The stores in which the known calls end. -/
def KOk (dp : Nat → Option Fn) (σ : Nat → Store) : Known → Nat → Prop
  | [], _ => True
  | (g, a, r) :: l, i => call dp g a [] = some (r, σ i) ∧ KOk dp σ l (i + 1)

theorem klook_ok {dp : Nat → Option Fn} {σ : Nat → Store} : ∀ {l : Known} {i : Nat}, KOk dp σ l i → ∀ {g : Nat} {args : List D} {j : Nat} {r : D}, klook l i g args = some (j, r) → call dp g args [] = some (r, σ j)
  | [], _, _, _, _, _, _, h => by cases h
  | (g', a, r') :: l, i, hk, g, args, j, r, h => by
    simp only [klook] at h
    split at h
    · rename_i hc
      simp only [Bool.and_eq_true, beq_iff_eq] at hc
      injection h with h
      injection h with h1 h2
      subst h1 h2
      rw [← hc.1, ← deqL_eq hc.2]
      exact hk.1
    · exact klook_ok hk.2 h

def callM (dp : Nat → Option Fn) (kn : Known) (σ : Nat → Store) : Nat → CallF
  | 0, _, _, _ => none
  | n + 1, g, args, S => match (if S.isEmpty then klook kn 0 g args else none) with
    | some (i, r) => some (r, σ i)
    | none => match dp g with
      | some f => if args.length = f.np ∧ f.np ≤ f.nt then finish f (exec (callM dp kn σ n) n f.body (frame0 f args) S) else primD f args S
      | none => none

theorem exec_lim {cf : CallF} (n : Nat) : ∀ (c : C) (fr : List D) (S : Store), LeO (exec cf n c fr S) (execL cf c fr S)
  | .skip, _, _ => LeO.refl _
  | .reg ops kill, fr, S => LeO.refl _
  | .dreg ops kill, fr, S => LeO.refl _
  | .bad, _, _ => LeO.refl _
  | .seq a b, fr, S => by
    intro x e
    simp only [exec, execL] at *
    cases ha : exec cf n a fr S with
    | none => simp [ha] at e
    | some p =>
      rw [exec_lim n a fr S p ha]
      rw [ha] at e
      obtain ⟨ex, fr', S'⟩ := p
      cases ex with
      | normal => exact exec_lim n b _ _ _ e
      | exit _ => exact e
      | ret => exact e
  | .cond q a b, fr, S => by
    intro x e
    simp only [exec, execL] at *
    cases hq : av fr q with
    | b y =>
      rw [hq] at e
      cases y with
      | true => exact exec_lim n a _ _ _ e
      | false => exact exec_lim n b _ _ _ e
    | _ => simp [hq] at e
  | .blk id a, fr, S => by
    intro x e
    simp only [exec, execL] at *
    cases ha : exec cf n a fr S with
    | none => simp [ha] at e
    | some p => rw [exec_lim n a fr S p ha]; rw [ha] at e; exact e
  | .loop kl a, fr, S => by
    intro x e
    simp only [exec, execL] at *
    exact (lim_iff (fun n m hm => iter_mono (fun _ _ => LeO.refl _) n m hm fr S) x).2 ⟨n, iter_mono (fun fr S => exec_lim n a (fkill fr kl) S) n n (Nat.le_refl _) _ _ _ e⟩
  | .exit _, _, _ => LeO.refl _
  | .ret, _, _ => LeO.refl _

theorem callM_call {dp : Nat → Option Fn} {kn : Known} {σ : Nat → Store} (hk : KOk dp σ kn 0) : ∀ n, LeC (callM dp kn σ n) (call dp)
  | 0 => fun _ _ _ _ e => by cases e
  | n + 1 => by
    intro g a S r e
    simp only [callM] at e
    split at e
    · rename_i i r0 hl
      injection e with e
      subst e
      split at hl
      · rename_i hS
        have : S = [] := by simpa using hS
        subst this
        exact klook_ok hk hl
      · cases hl
    · rw [call_eq]
      cases hg : dp g with
      | none => simp [hg] at e
      | some f =>
        simp only [hg] at e ⊢
        split at e
        · rename_i hn
          rw [if_pos hn]
          refine finish_mono f ?_ _ e
          intro x hx
          have h1 := exec_mono (callM_call hk n) (Nat.le_refl n) f.body (frame0 f a) S x hx
          exact exec_lim n f.body _ _ x h1
        · rename_i hn
          rw [if_neg hn]
          exact e

/-- The answer of a call, reckoned. -/
def ans (o : Option (D × Store)) : Option D := match o with
  | some (r, _) => some r
  | none => none

theorem known {dp : Nat → Option Fn} {kn : Known} {g : Nat} {args : List D} {r : D} (n : Nat) (hk : ∃ σ, KOk dp σ kn 0) (h : ∀ σ, ans (callM dp kn σ n g args []) = some r) : ∃ S, call dp g args [] = some (r, S) := by
  obtain ⟨σ, hk⟩ := hk
  have := h σ
  unfold ans at this
  split at this
  · rename_i r0 S0 e
    injection this with this
    subst this
    exact ⟨S0, callM_call hk n _ _ _ _ e⟩
  · cases this

theorem known_nil {dp : Nat → Option Fn} : ∃ σ, KOk dp σ [] 0 := ⟨fun _ => [], trivial⟩
theorem KOk_shift {dp : Nat → Option Fn} {σ : Nat → Store} : ∀ {l : Known} {i : Nat} (S : Store), KOk dp σ l i → KOk dp (fun n => match n with | 0 => S | n + 1 => σ n) l (i + 1)
  | [], _, _, _ => trivial
  | (_, _, _) :: l, i, S, h => ⟨h.1, KOk_shift (l := l) (i := i + 1) S h.2⟩
theorem known_cons {dp : Nat → Option Fn} {kn : Known} {g : Nat} {args : List D} {r : D} (h : ∃ S, call dp g args [] = some (r, S)) (hk : ∃ σ, KOk dp σ kn 0) : ∃ σ, KOk dp σ ((g, args, r) :: kn) 0 := by
  obtain ⟨S, h⟩ := h
  obtain ⟨σ, hk⟩ := hk
  exact ⟨fun n => match n with | 0 => S | n + 1 => σ n, h, KOk_shift S hk⟩

end Go.Proofs.YtjniafcnjbbomaaGreatDoor.DE
