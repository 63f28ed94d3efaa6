/-
  FROM READABLE ARGUMENTS TO DATA.
-/
import Derived.Test.YtjlmeikcfdanmaaGreatDoorDm
import Derived.Test.YtjlmeikcfdanmaaGreatDoorDe25
import Derived.Test.YtjlmeikcfdanmaaGreatDoorRows
import Derived.ProofKit
import Derived.Deep.Slices
import Derived.Deep.Strs
namespace Go.Proofs.YtjlmeikcfdanmaaGreatDoor.DE.V
open Go Go.ChangeShapes Go.WideShapes Go.RowKit
set_option maxRecDepth 100000

/-- Each cell that is there. -/
def there (w : World) : Fix := fun b o => ∃ v, w.cell? ⟨b, o, none⟩ = some v

theorem sim0 {dp : Nat → Option Fn} (w : World) : Sim dp (there w) [] w [] :=
  ⟨rfl, fun _ _ h => h, fun _ _ _ h => by (cases h), fun _ _ _ _ _ _ _ h => by (cases h)⟩

section
variable {H : Type} {enc : TypeId × Value → H} {w : World} {base : Nat} {spare : Nat → Bool} {held : Bool} {fuel : Nat} {cs : List Value} {x : DataW H × List MemPlace}

theorem wf64 {n : Int} (h : (Lit.int .i64 n).wf = true) : in64 n := by
  simp only [Lit.wf, Bool.and_eq_true, decide_eq_true_eq] at h
  exact h

theorem rd_int (h : DataW.trod enc Tryz.prog w base spare held fuel 3 cs = some x) : ∃ n, cs = [.int .i64 n] ∧ in64 n := by
  obtain ⟨n, h1, _, h2⟩ := DataW.trod_int Tryz.underlying3 h
  exact ⟨n, h1, wf64 h2⟩

theorem cells27 : Tryz.prog.cellsOf 27 = 2 := by kernel_rfl
theorem cells74 : Tryz.prog.cellsOf 74 = 3 := by kernel_rfl
theorem cells25 : Tryz.prog.cellsOf 25 = 3 := by kernel_rfl
theorem cells3 : Tryz.prog.cellsOf 3 = 1 := by kernel_rfl
theorem cells22 : Tryz.prog.cellsOf 22 = 1 := by kernel_rfl
theorem cells23 : Tryz.prog.cellsOf 23 = 1 := by kernel_rfl

def vRow (r : Row) : List Value := [.int .i64 r.1, .int .i64 r.2]
def vNd (r : Nd) : List Value := [.int .i64 r.1, .int .i64 r.2.1, .int .i64 r.2.2]

theorem rd_row (h : DataW.trod enc Tryz.prog w base spare held fuel 27 cs = some x) : ∃ r : Row, cs = vRow r ∧ okRow r := by
  obtain ⟨y0, y1, n, _, hl, h0, h1⟩ := trod_struct2 Tryz.underlying27 h
  rw [cells27] at hl
  simp only [cells3] at h0 h1
  match cs, hl with
  | [a, b], _ =>
    obtain ⟨n0, e0, w0⟩ := rd_int h0
    obtain ⟨n1, e1, w1⟩ := rd_int h1
    simp at e0 e1
    subst e0 e1
    exact ⟨(n0, n1), rfl, w0, w1⟩

theorem rd_nd (h : DataW.trod enc Tryz.prog w base spare held fuel 74 cs = some x) : ∃ r : Nd, cs = vNd r ∧ okNd64 r := by
  obtain ⟨y0, y1, y2, n, _, hl, h0, h1, h2⟩ := Go.Deep.trod_struct3 Tryz.underlying74 h
  rw [cells74] at hl
  simp only [cells3] at h0 h1 h2
  match cs, hl with
  | [a, b, c], _ =>
    obtain ⟨n0, e0, w0⟩ := rd_int h0
    obtain ⟨n1, e1, w1⟩ := rd_int h1
    obtain ⟨n2, e2, w2⟩ := rd_int h2
    simp at e0 e1 e2
    subst e0 e1 e2
    exact ⟨(n0, n1, n2), rfl, w0, w1, w2⟩

theorem rd_slice {t e k : Nat} {α : Type} [Inhabited α] {dp : Nat → Option Fn} (en : α → List D) (vals : α → List Value) (P : α → Prop) (ht : Tryz.prog.underlying t = some (.slice e)) (hk : Tryz.prog.cellsOf e = k)
    (hen : ∀ a, (en a).length = k) (hvl : ∀ a, (vals a).length = k)
    (helem : ∀ (n : Nat) (sp : Nat → Bool) (cs : List Value) (x : DataW H × List MemPlace), DataW.trod enc Tryz.prog w base sp held n e cs = some x → ∃ a, cs = vals a ∧ P a)
    (hrel : ∀ (a : α) (m : Nat) (v : Value) (d : D), (vals a)[m]? = some v → (en a)[m]? = some d → v.oneCell' = true ∧ Rel dp (there w) [] w v d)
    (h : DataW.trod enc Tryz.prog w base spare held fuel t cs = some x) (hsp : ∀ a l c, cs = [.slice (some a) l c] → a.spot = none) :
    ∃ nl l v, (nl = true → l = []) ∧ (∀ a ∈ l, P a) ∧ l.length ≤ maxLen ∧ cs = [v] ∧ v.oneCell' = true ∧ Rel dp (there w) [] w v (.sl k nl (l.map en) .ro) := by
  rcases Go.Deep.open_slice ht h with ⟨rfl, _⟩ | ⟨a, len, cap, m, n, D', Pl, rfl, hb, hl, hm, hmm, _, hx⟩
  · exact ⟨true, [], _, fun _ => rfl, fun _ h => by (cases h), Nat.zero_le _, rfl, rfl, .nil k .ro⟩
  · have hspot := hsp a len cap rfl
    have hlm : len ≤ m := by rw [hmm]; split <;> omega
    obtain ⟨f, hf⟩ := Go.Deep.choose_lt (α := α) (n := len) (p := fun i y => w.cells? base (a.add (i * Tryz.prog.cellsOf e)) (Tryz.prog.cellsOf e) = some (vals y) ∧ P y) (fun i hi => by
      obtain ⟨cs', h1, h2⟩ := hx i (by omega)
      obtain ⟨y, e1, e2⟩ := helem _ _ _ _ h2
      exact ⟨y, e1 ▸ h1, e2⟩)
    obtain ⟨blk, off, spot⟩ := a
    simp only at hspot
    subst hspot
    have hadd : ∀ i j, ((Addr.mk blk off none).add i).add j = ⟨blk, off + i + j, none⟩ := by
      intro i j
      unfold Addr.add
      by_cases hi : i = 0 <;> by_cases hj : j = 0 <;> simp [hi, hj, Nat.add_assoc]
    have hcell : ∀ i, i < len → ∀ j, j < k → w.cell? ⟨blk, off + i * k + j, none⟩ = (vals (f i))[j]? := by
      intro i hi j hj
      obtain ⟨h1, _⟩ := hf i hi
      rw [hk] at h1
      obtain ⟨_, _, h3⟩ := World.cells?_some h1
      have := h3 j hj
      rwa [hadd] at this
    refine ⟨false, (List.range len).map f, _, fun h => by (cases h), ?_, by simp; omega, rfl, rfl, ?_⟩
    · intro y hy
      obtain ⟨i, hi, rfl⟩ := List.mem_map.1 hy
      exact (hf i (List.mem_range.1 hi)).2
    · have hlen : ((List.range len).map f).map en = (List.range len).map fun i => en (f i) := by rw [List.map_map]; rfl
      rw [hlen]
      have hget : ∀ (j : Nat) (y : List D), ((List.range len).map fun i => en (f i))[j]? = some y → j < len ∧ y = en (f j) := by
        intro j y hj
        rw [List.getElem?_map] at hj
        by_cases hjl : j < len
        · rw [List.getElem?_range hjl] at hj
          simp at hj
          exact ⟨hjl, hj.symm⟩
        · rw [List.getElem?_eq_none (by simp; omega)] at hj
          cases hj
      have key := Rel.sl (dp := dp) (F := there w) (G := []) (w := w) k ((List.range len).map fun i => en (f i)) .ro blk off cap (fun j m => ((vals (f j))[m]?).getD .nilIface)
        (by intro y hy; obtain ⟨i, _, rfl⟩ := List.mem_map.1 hy; exact hen _) (by simpa using hl)
        (by
          intro j y m d hj hd
          obtain ⟨hjl, rfl⟩ := hget j y hj
          have hmk : m < k := by
            rcases Nat.lt_or_ge m k with q | q
            · exact q
            · rw [List.getElem?_eq_none (by rw [hen]; exact q)] at hd; cases hd
          obtain ⟨v, hv⟩ : ∃ v, (vals (f j))[m]? = some v := ⟨_, List.getElem?_eq_getElem (by rw [hvl]; exact hmk)⟩
          have hc := hcell j hjl m hmk
          rw [hv] at hc ⊢
          exact ⟨⟨v, hc⟩, hc, (hrel _ _ _ _ hv hd).1⟩)
        (by
          intro j y m d hj hd
          obtain ⟨hjl, rfl⟩ := hget j y hj
          have hmk : m < k := by
            rcases Nat.lt_or_ge m k with q | q
            · exact q
            · rw [List.getElem?_eq_none (by rw [hen]; exact q)] at hd; cases hd
          obtain ⟨v, hv⟩ : ∃ v, (vals (f j))[m]? = some v := ⟨_, List.getElem?_eq_getElem (by rw [hvl]; exact hmk)⟩
          simp only [hv, Option.getD_some]
          exact (hrel _ _ _ _ hv hd).2)
        trivial
      simpa using key

theorem rel_row {dp : Nat → Option Fn} (a : Row) (m : Nat) (v : Value) (d : D) (h1 : (vRow a)[m]? = some v) (h2 : (eRow a)[m]? = some d) : v.oneCell' = true ∧ Rel dp (there w) [] w v d := by
  match m with
  | 0 => simp [vRow] at h1; simp at h2; subst h1 h2; exact ⟨rfl, .i _ _⟩
  | 1 => simp [vRow] at h1; simp at h2; subst h1 h2; exact ⟨rfl, .i _ _⟩
  | m + 2 => simp [vRow] at h1

theorem rel_nd {dp : Nat → Option Fn} (a : Nd) (m : Nat) (v : Value) (d : D) (h1 : (vNd a)[m]? = some v) (h2 : (eNd a)[m]? = some d) : v.oneCell' = true ∧ Rel dp (there w) [] w v d := by
  match m with
  | 0 => simp [vNd] at h1; simp at h2; subst h1 h2; exact ⟨rfl, .i _ _⟩
  | 1 => simp [vNd] at h1; simp at h2; subst h1 h2; exact ⟨rfl, .i _ _⟩
  | 2 => simp [vNd] at h1; simp at h2; subst h1 h2; exact ⟨rfl, .i _ _⟩
  | m + 3 => simp [vNd] at h1

theorem rd_rows {dp : Nat → Option Fn} (h : DataW.trod enc Tryz.prog w base spare held fuel 22 cs = some x) (hsp : ∀ a l c, cs = [.slice (some a) l c] → a.spot = none) :
    ∃ nl l v, (nl = true → l = []) ∧ (∀ a ∈ l, okRow a) ∧ l.length ≤ maxLen ∧ cs = [v] ∧ v.oneCell' = true ∧ Rel dp (there w) [] w v (eRows nl l) :=
  rd_slice eRow vRow okRow Tryz.underlying22 cells27 (fun _ => rfl) (fun _ => rfl) (fun _ _ _ _ h => rd_row h) (fun a m v d => rel_row a m v d) h hsp

theorem rd_nds {dp : Nat → Option Fn} (h : DataW.trod enc Tryz.prog w base spare held fuel 23 cs = some x) (hsp : ∀ a l c, cs = [.slice (some a) l c] → a.spot = none) :
    ∃ nl l v, (nl = true → l = []) ∧ (∀ a ∈ l, okNd64 a) ∧ l.length ≤ maxLen ∧ cs = [v] ∧ v.oneCell' = true ∧ Rel dp (there w) [] w v (eNds nl l) :=
  rd_slice eNd vNd okNd64 Tryz.underlying23 cells74 (fun _ => rfl) (fun _ => rfl) (fun _ _ _ _ h => rd_nd h) (fun a m v d => rel_nd a m v d) h hsp

theorem spot_of {r : Reach} {b0 : Nat} {t e : TypeId} {v : Value} (ht : Tryz.prog.underlying t = some (.slice e)) (h : Cell.okWide Tryz.prog w r b0 t v) : ∀ a l c, v = .slice (some a) l c → a.spot = none := by
  rintro a l c rfl
  simp only [Cell.okWide, ht, Cell.ok] at h
  exact h.2.2.2.1

/-- A diagram that is handed over. -/
theorem rd_bdd {dp : Nat → Option Fn} {r : Reach} {b0 : Nat} {v : Value} {d : DataW H} {ps : List MemPlace} (hv : Value.okWide Tryz.prog w r b0 25 v) (h : DataW.Trod enc Tryz.prog w base spare held 25 v d ps) :
    ∃ nl nl' ord ns root, (nl = true → ord = []) ∧ (nl' = true → ns = []) ∧ (∀ a ∈ ord, okRow a) ∧ (∀ a ∈ ns, okNd64 a) ∧ in64 root ∧ ord.length ≤ maxLen ∧ ns.length ≤ maxLen ∧ Rel dp (there w) [] w v (eB nl nl' ord ns root) := by
  obtain ⟨fuel, h⟩ := h
  simp only [Value.okWide, Tryz.underlying25] at hv
  obtain ⟨cs, rfl, hsz, ts, hts, _, hcell⟩ := hv
  have ht : ts = [22, 23, 3] := Option.some.inj (hts.symm.trans (show Tryz.prog.cellTypes Tryz.prog.depth 25 = some [22, 23, 3] by kernel_rfl))
  subst ht
  obtain ⟨y0, y1, y2, n, _, hl, h0, h1, h2⟩ := Go.Deep.trod_struct3 Tryz.underlying25 h
  simp only [cells3, cells22, cells23] at h0 h1 h2
  rw [cells25] at hl
  have hcs : (Value.agg cs).cells.toList = cs.toList := rfl
  rw [hcs] at h0 h1 h2 hl
  obtain ⟨l⟩ := cs
  match l, hl with
  | [a, b, c], _ =>
    have hca : ∀ x l c, [a] = [Value.slice (some x) l c] → x.spot = none := by
      obtain ⟨u, hu, hk⟩ := hcell 0 a rfl
      simp at hu; subst hu
      intro x l c e
      injection e with e
      exact spot_of Tryz.underlying22 hk x l c e
    have hcb : ∀ x l c, [b] = [Value.slice (some x) l c] → x.spot = none := by
      obtain ⟨u, hu, hk⟩ := hcell 1 b rfl
      simp at hu; subst hu
      intro x l c e
      injection e with e
      exact spot_of Tryz.underlying23 hk x l c e
    obtain ⟨nl, ord, va, g1, g2, g3, e1, _, r1⟩ := rd_rows (dp := dp) h0 hca
    obtain ⟨nl', ns, vb, k1, k2, k3, e2, _, r2⟩ := rd_nds (dp := dp) h1 hcb
    obtain ⟨root, e3, i3⟩ := rd_int h2
    simp at e1 e2 e3
    subst e1 e2 e3
    refine ⟨nl, nl', ord, ns, root, g1, k1, g2, k2, i3, g3, k3, .agg _ _ rfl ?_⟩
    intro j v d hv hd
    match j with
    | 0 => simp at hv hd; subst hv hd; exact r1
    | 1 => simp at hv hd; subst hv hd; exact r2
    | 2 => simp at hv hd; subst hv hd; exact .i _ _
    | j + 3 => simp at hv

theorem rd_rowsArg {dp : Nat → Option Fn} {r : Reach} {b0 : Nat} {v : Value} {d : DataW H} {ps : List MemPlace} (hv : Value.okWide Tryz.prog w r b0 22 v) (h : DataW.Trod enc Tryz.prog w base spare held 22 v d ps) :
    ∃ nl ord, (nl = true → ord = []) ∧ (∀ a ∈ ord, okRow a) ∧ ord.length ≤ maxLen ∧ Rel dp (there w) [] w v (eRows nl ord) := by
  obtain ⟨fuel, h⟩ := h
  simp only [Value.okWide, Tryz.underlying22] at hv
  have hs := spot_of Tryz.underlying22 hv
  have hc : v.cells.toList = [v] := by
    cases v <;> first | rfl | (simp only [Cell.okWide, Tryz.underlying22, Cell.ok] at hv)
  rw [hc] at h
  obtain ⟨nl, ord, va, g1, g2, g3, e1, _, r1⟩ := rd_rows (dp := dp) h (fun a l c e => hs a l c (by injection e))
  injection e1 with e1
  subst e1
  exact ⟨nl, ord, g1, g2, g3, r1⟩

theorem rd_rowArg {dp : Nat → Option Fn} {r : Reach} {b0 : Nat} {v : Value} {d : DataW H} {ps : List MemPlace} (hv : Value.okWide Tryz.prog w r b0 27 v) (h : DataW.Trod enc Tryz.prog w base spare held 27 v d ps) :
    ∃ a : Row, okRow a ∧ Rel dp (there w) [] w v (.agg (eRow a)) := by
  obtain ⟨fuel, h⟩ := h
  simp only [Value.okWide, Tryz.underlying27] at hv
  obtain ⟨cs, rfl, _, _⟩ := hv
  obtain ⟨a, e, ho⟩ := rd_row h
  obtain ⟨l⟩ := cs
  simp [Value.cells] at e
  subst e
  exact ⟨a, ho, .agg _ _ rfl fun j v d hv hd => (rel_row a j v d (by simpa using hv) hd).2⟩

theorem rd_boolArg {dp : Nat → Option Fn} {r : Reach} {b0 : Nat} {v : Value} {d : DataW H} {ps : List MemPlace} (hv : Value.okWide Tryz.prog w r b0 4 v) (h : DataW.Trod enc Tryz.prog w base spare held 4 v d ps) :
    ∃ a : Bool, Rel dp (there w) [] w v (.b a) := by
  obtain ⟨a, rfl, _, _⟩ := open_bool Tryz.underlying4 hv h
  exact ⟨a, .b a⟩

theorem rd_intArg {dp : Nat → Option Fn} {r : Reach} {b0 : Nat} {v : Value} {d : DataW H} {ps : List MemPlace} (hv : Value.okWide Tryz.prog w r b0 3 v) (h : DataW.Trod enc Tryz.prog w base spare held 3 v d ps) :
    ∃ a : Int, in64 a ∧ Rel dp (there w) [] w v (.i .i64 a) := by
  obtain ⟨a, rfl, _, _, h1⟩ := open_int Tryz.underlying3 hv h
  exact ⟨a, wf64 h1, .i .i64 a⟩

end

end Go.Proofs.YtjlmeikcfdanmaaGreatDoor.DE.V
