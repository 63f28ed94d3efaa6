/-
  WHAT A VALUE WITHOUT MEMORY SAYS OF A VALUE IN A WORLD; the store and the world; steps.
-/
import Derived.Test.YtjlmeikcfdanmaaGreatDoorDe2
import Derived.Laws.World
import Derived.Laws.Sem
import Derived.Laws.Cells
import Derived.Calls
namespace Go.Proofs.YtjlmeikcfdanmaaGreatDoor.DE
open Go

structure Gh where
  blk : Nat
  lo : Nat
  hi : Nat

abbrev Fix := Nat → Nat → Prop

def OwnOk (G : List Gh) (b lo hi cap : Nat) : Own → Prop
  | .ro => True
  | .cap0 => cap = 0
  | .tok t => sget G t = some ⟨b, lo, hi⟩

inductive Rel (dp : Nat → Option Fn) (F : Fix) (G : List Gh) (w : World) : Value → D → Prop
  | top (v : Value) : Rel dp F G w v .top
  | b (x : Bool) : Rel dp F G w (.bool x) (.b x)
  | i (k : IntKind) (n : Int) : Rel dp F G w (.int k n) (.i k n)
  | s (l : List UInt8) : Rel dp F G w (.string ⟨l.toArray⟩) (.s l)
  | nil (k : Nat) (o : Own) : Rel dp F G w (.slice none 0 0) (.sl k true [] o)
  | sl (k : Nat) (xs : List (List D)) (o : Own) (blk off cap : Nat) (c : Nat → Nat → Value) (hk : ∀ x ∈ xs, x.length = k) (hcap : xs.length ≤ cap)
      (h1 : ∀ (j : Nat) (x : List D) (m : Nat) (d : D), xs[j]? = some x → x[m]? = some d → F blk (off + j * k + m) ∧ w.cell? ⟨blk, off + j * k + m, none⟩ = some (c j m) ∧ (c j m).oneCell' = true)
      (h2 : ∀ (j : Nat) (x : List D) (m : Nat) (d : D), xs[j]? = some x → x[m]? = some d → Rel dp F G w (c j m) d)
      (ho : OwnOk G blk (off + xs.length * k) (off + cap * k) cap o) : Rel dp F G w (.slice (some ⟨blk, off, none⟩) xs.length cap) (.sl k false xs o)
  | agg (vs : Array Value) (ds : List D) (hl : vs.size = ds.length) (h : ∀ (j : Nat) (v : Value) (d : D), vs[j]? = some v → ds[j]? = some d → Rel dp F G w v d) : Rel dp F G w (.agg vs) (.agg ds)
  | tup (vs : Array Value) (ds : List D) (hl : vs.size = ds.length) (h : ∀ (j : Nat) (v : Value) (d : D), vs[j]? = some v → ds[j]? = some d → Rel dp F G w v d) : Rel dp F G w (.tuple vs) (.tup ds)
  | bx (id o : Nat) (g : Gh) (hg : sget G id = some g) : Rel dp F G w (.pointer (some ⟨g.blk, o, none⟩)) (.bx id o)
  | el (cs : List D) (blk base o : Nat) (c : Nat → Value) (h1 : ∀ (m : Nat) (d : D), cs[m]? = some d → F blk (base + m) ∧ w.cell? ⟨blk, base + m, none⟩ = some (c m))
      (h2 : ∀ (m : Nat) (d : D), cs[m]? = some d → Rel dp F G w (c m) d) : Rel dp F G w (.pointer (some ⟨blk, base + o, none⟩)) (.el cs o)
  | ar (k id o n cap : Nat) (g : Gh) (hg : sget G id = some g) (hn : n ≤ cap) : Rel dp F G w (.slice (some ⟨g.blk, o, none⟩) n cap) (.ar k id o n)
  | nilp : Rel dp F G w (.pointer none) .nilp
  | nilm : Rel dp F G w (.map none) .nilm
  | mp (id : Nat) (g : Gh) (hg : sget G id = some g) : Rel dp F G w (.map (some g.blk)) (.mp id)
  | fn (g : Nat) (f : Fn) (hf : dp g = some f) (vs : Array Value) (ds : List D) (hl : vs.size = ds.length)
      (h : ∀ (j : Nat) (v : Value) (d : D), vs[j]? = some v → ds[j]? = some d → Rel dp F G w v d) : Rel dp F G w (.func (.func f.real) #[] vs) (.fn g ds)

def holds : Ent → Prop
  | .box _ => True
  | .map _ => True
  | .tok true => True
  | _ => False

def EntOk (dp : Nat → Option Fn) (F : Fix) (G : List Gh) (w : World) (g : Gh) : Ent → Prop
  | .box cs => ∃ vs T, w.heap[g.blk]? = some (.cells vs T (0, 0)) ∧ cs.length ≤ vs.size ∧ (∀ o, ¬ F g.blk o) ∧ (∀ v ∈ vs.toList, v.oneCell' = true) ∧ ∀ (m : Nat) (v : Value) (d : D), vs[m]? = some v → cs[m]? = some d → Rel dp F G w v d
  | .tok true => ∃ vs T, w.heap[g.blk]? = some (.cells vs T (0, 0)) ∧ g.hi ≤ vs.size ∧ ∀ o, g.lo ≤ o → ¬ F g.blk o
  | .map es => ∃ ents, w.heap[g.blk]? = some (.map ents es.length) ∧ ents.size = es.length ∧ ∀ (j : Nat) (e : MapEntry) (d : D × D), ents[j]? = some e → es[j]? = some d → e.born = j ∧ Rel dp F G w e.key d.1 ∧ Rel dp F G w e.val d.2
  | _ => True

/-- The block b is one that an entry of the store holds. -/
def Owns (S : Store) (G : List Gh) (b : Nat) : Prop := ∃ id e g, sget S id = some e ∧ holds e ∧ sget G id = some g ∧ g.blk = b

structure Sim (dp : Nat → Option Fn) (F : Fix) (G : List Gh) (w : World) (S : Store) : Prop where
  len : G.length = S.length
  fcell : ∀ b o, F b o → ∃ v, w.cell? ⟨b, o, none⟩ = some v
  ent : ∀ id e g, sget S id = some e → sget G id = some g → EntOk dp F G w g e
  sep : ∀ i j e e' g g', i ≠ j → sget S i = some e → sget S j = some e' → holds e → holds e' → sget G i = some g → sget G j = some g' → g.blk ≠ g'.blk

structure Ext (F : Fix) (G : List Gh) (w : World) (S : Store) (F' : Fix) (G' : List Gh) (w' : World) (S' : Store) : Prop where
  fsub : ∀ b o, F b o → F' b o
  gsub : ∀ id g, sget G id = some g → sget G' id = some g
  cells : ∀ b o, F b o → w'.cell? ⟨b, o, none⟩ = w.cell? ⟨b, o, none⟩
  frame : ∀ b, b < w.heap.size → ¬ Owns S G b → w'.heap[b]? = w.heap[b]?
  own : ∀ b, Owns S' G' b → Owns S G b ∨ w.heap.size ≤ b
  fnew : ∀ b o, F' b o → F b o ∨ Owns S G b ∨ w.heap.size ≤ b
  size : w.heap.size ≤ w'.heap.size
  os : w'.os = w.os
  tape : w'.tape = w.tape
  output : w'.output = w.output

section
variable {dp : Nat → Option Fn} {F F' : Fix} {G G' : List Gh} {w w' : World} {S S' : Store}

theorem sget_lt {α : Type} : ∀ {l : List α} {id : Nat} {x : α}, sget l id = some x → id < l.length
  | [], _, _, h => by cases h
  | e :: l, id, x, h => by
    simp only [sget] at h
    split at h
    · rename_i he; simp; omega
    · have := sget_lt h; simp; omega

theorem sget_some {α : Type} : ∀ (l : List α) (id : Nat), id < l.length → ∃ x, sget l id = some x
  | [], _, h => by simp at h
  | e :: l, id, h => by
    simp only [sget]
    split
    · exact ⟨e, rfl⟩
    · rename_i he
      exact sget_some l id (by simp at h; omega)

theorem sset_length {α : Type} : ∀ (l : List α) (id : Nat) (x : α), (sset l id x).length = l.length
  | [], _, _ => rfl
  | e :: l, id, x => by
    simp only [sset]
    split
    · rfl
    · simp [sset_length l id x]

theorem sget_sset {α : Type} : ∀ (l : List α) (id j : Nat) (x : α), sget (sset l id x) j = if j = id ∧ id < l.length then some x else sget l j
  | [], id, j, x => by simp [sset, sget]
  | e :: l, id, j, x => by
    simp only [sset]
    by_cases h : id = l.length
    · subst h
      by_cases hj : j = l.length
      · subst hj; simp [sget]
      · simp [sget, hj]
    · rw [if_neg h]
      simp only [sget, sset_length]
      by_cases hj : j = l.length
      · subst hj
        rw [if_pos rfl, if_pos rfl, if_neg (by omega)]
      · rw [if_neg hj, if_neg hj, sget_sset l id j x]
        by_cases hji : j = id
        · subst hji
          by_cases hl : j < l.length
          · rw [if_pos ⟨rfl, hl⟩, if_pos ⟨rfl, by simp; omega⟩]
          · rw [if_neg (by omega), if_neg (by simp; omega)]
        · rw [if_neg (by omega), if_neg (by omega)]

theorem sget_cons {α : Type} (e : α) (l : List α) (id : Nat) (h : id < l.length) : sget (e :: l) id = sget l id := by
  simp only [sget]; rw [if_neg (by omega)]

theorem sget_top {α : Type} (e : α) (l : List α) : sget (e :: l) l.length = some e := by simp [sget]

theorem fget_fset : ∀ (fr : List D) (n m : Nat) (v : D), fget (fset fr n v) m = if m = n ∧ n < fr.length then v else fget fr m
  | [], n, m, v => by simp [fset, fget]
  | d :: l, 0, 0, v => by simp [fset, fget]
  | d :: l, 0, m + 1, v => by simp [fset, fget]
  | d :: l, n + 1, 0, v => by simp [fset, fget]
  | d :: l, n + 1, m + 1, v => by simp only [fset, fget, fget_fset l n m v]; simp

theorem fset_length : ∀ (fr : List D) (n : Nat) (v : D), (fset fr n v).length = fr.length
  | [], _, _ => rfl
  | _ :: _, 0, _ => rfl
  | _ :: l, n + 1, v => by simp [fset, fset_length l n v]

theorem fget_ge : ∀ (fr : List D) (n : Nat), fr.length ≤ n → fget fr n = .top
  | [], _, _ => rfl
  | d :: l, 0, h => by simp at h
  | d :: l, n + 1, h => fget_ge l n (by simpa using h)

theorem fget_getElem : ∀ (fr : List D) (n : Nat) (d : D), fr[n]? = some d → fget fr n = d
  | [], _, _, h => by simp at h
  | x :: l, 0, d, h => by simpa [fget] using h
  | x :: l, n + 1, d, h => fget_getElem l n d (by simpa using h)

theorem Rel.mono {v : Value} {d : D} (h : Rel dp F G w v d) (hF : ∀ b o, F b o → F' b o) (hG : ∀ id g, sget G id = some g → sget G' id = some g)
    (hw : ∀ b o, F b o → w'.cell? ⟨b, o, none⟩ = w.cell? ⟨b, o, none⟩) : Rel dp F' G' w' v d := by
  induction h with
  | top v => exact .top v
  | b x => exact .b x
  | i k n => exact .i k n
  | s l => exact .s l
  | nil k o => exact .nil k o
  | sl k xs o blk off cap c hk hcap h1 h2 ho ih =>
    refine .sl k xs o blk off cap c hk hcap (fun j x m d hx hd => ?_) ih ?_
    · obtain ⟨a, b, e⟩ := h1 j x m d hx hd
      exact ⟨hF _ _ a, (hw _ _ a).trans b, e⟩
    · cases o with
      | ro => trivial
      | cap0 => exact ho
      | tok t => exact hG _ _ ho
  | agg vs ds hl h ih => exact .agg vs ds hl ih
  | tup vs ds hl h ih => exact .tup vs ds hl ih
  | bx id o g hg => exact .bx id o g (hG _ _ hg)
  | el cs blk base o c h1 h2 ih =>
    refine .el cs blk base o c (fun m d hd => ?_) ih
    obtain ⟨a, b⟩ := h1 m d hd
    exact ⟨hF _ _ a, (hw _ _ a).trans b⟩
  | ar k id o n cap g hg hn => exact .ar k id o n cap g (hG _ _ hg) hn
  | nilp => exact .nilp
  | nilm => exact .nilm
  | mp id g hg => exact .mp id g (hG _ _ hg)
  | fn g f hf vs ds hl h ih => exact .fn g f hf vs ds hl ih

theorem Rel.ext {v : Value} {d : D} (h : Rel dp F G w v d) (e : Ext F G w S F' G' w' S') : Rel dp F' G' w' v d := h.mono e.fsub e.gsub e.cells

theorem noRefL_get : ∀ {l : List D} {j : Nat} {d : D}, noRefL l = true → l[j]? = some d → noRef d = true
  | [], _, _, _, h => by simp at h
  | x :: l, 0, d, hn, h => by
    simp only [noRefL, Bool.and_eq_true] at hn
    simp at h; subst h; exact hn.1
  | x :: l, j + 1, d, hn, h => by
    simp only [noRefL, Bool.and_eq_true] at hn
    exact noRefL_get hn.2 (by simpa using h)

theorem noRefLL_get : ∀ {l : List (List D)} {j : Nat} {x : List D}, noRefLL l = true → l[j]? = some x → noRefL x = true
  | [], _, _, _, h => by simp at h
  | x :: l, 0, d, hn, h => by
    simp only [noRefLL, Bool.and_eq_true] at hn
    simp at h; subst h; exact hn.1
  | x :: l, j + 1, d, hn, h => by
    simp only [noRefLL, Bool.and_eq_true] at hn
    exact noRefLL_get hn.2 (by simpa using h)

/-- A plain value says nothing of the store. -/
theorem Rel.plain {v : Value} {d : D} (h : Rel dp F G w v d) : noRef d = true → ∀ G', Rel dp F G' w v d := by
  induction h with
  | top v => exact fun _ _ => .top v
  | b x => exact fun _ _ => .b x
  | i k n => exact fun _ _ => .i k n
  | s l => exact fun _ _ => .s l
  | nil k o => exact fun _ _ => .nil k o
  | sl k xs o blk off cap c hk hcap h1 h2 ho ih =>
    intro hn G'
    simp only [noRef, Bool.and_eq_true] at hn
    refine .sl k xs o blk off cap c hk hcap h1 (fun j x m d hx hd => ih j x m d hx hd (noRefL_get (noRefLL_get hn.2 hx) hd) G') ?_
    cases o with
    | ro => trivial
    | cap0 => exact ho
    | tok t => simp at hn
  | agg vs ds hl h ih => exact fun hn G' => .agg vs ds hl fun j v d hv hd => ih j v d hv hd (noRefL_get (by simpa only [noRef] using hn) hd) G'
  | tup vs ds hl h ih => exact fun hn G' => .tup vs ds hl fun j v d hv hd => ih j v d hv hd (noRefL_get (by simpa only [noRef] using hn) hd) G'
  | bx id o g hg => exact fun hn => by simp [noRef] at hn
  | el cs blk base o c h1 h2 ih => exact fun hn => by simp [noRef] at hn
  | ar k id o n cap g hg hn => exact fun hn => by simp [noRef] at hn
  | nilp => exact fun _ _ => .nilp
  | nilm => exact fun _ _ => .nilm
  | mp id g hg => exact fun hn => by simp [noRef] at hn
  | fn g f hf vs ds hl h ih => exact fun hn G' => .fn g f hf vs ds hl fun j v d hv hd => ih j v d hv hd (noRefL_get (by simpa only [noRef] using hn) hd) G'

theorem Rel.strip1 {v : Value} {d : D} (h : Rel dp F G w v d) : Rel dp F G w v (strip1 d) := by
  cases h with
  | nil k o => exact .nil k .ro
  | sl k xs o blk off cap c hk hcap h1 h2 ho => exact .sl k xs .ro blk off cap c hk hcap h1 h2 trivial
  | top v => exact .top v
  | b x => exact .b x
  | i k n => exact .i k n
  | s l => exact .s l
  | agg vs ds hl h => exact .agg vs ds hl h
  | tup vs ds hl h => exact .tup vs ds hl h
  | bx id o g hg => exact .bx id o g hg
  | el cs blk base o c h1 h2 => exact .el cs blk base o c h1 h2
  | ar k id o n cap g hg hn => exact .ar k id o n cap g hg hn
  | nilp => exact .nilp
  | nilm => exact .nilm
  | mp id g hg => exact .mp id g hg
  | fn g f hf vs ds hl h => exact .fn g f hf vs ds hl h

theorem strip1L_get : ∀ {l : List D} {j : Nat} {d : D}, (strip1L l)[j]? = some d → ∃ e, l[j]? = some e ∧ d = strip1 e
  | [], _, _, h => by simp [strip1L] at h
  | x :: l, 0, d, h => ⟨x, rfl, by simpa [strip1L] using h.symm⟩
  | x :: l, j + 1, d, h => by
    obtain ⟨e, a, b⟩ := strip1L_get (l := l) (j := j) (by simpa [strip1L] using h)
    exact ⟨e, by simpa using a, b⟩

theorem strip1L_length : ∀ l : List D, (strip1L l).length = l.length
  | [] => rfl
  | _ :: l => by simp [strip1L, strip1L_length l]

theorem stripL_get : ∀ {l : List D} {j : Nat} {d : D}, (stripL l)[j]? = some d → ∃ e, l[j]? = some e ∧ d = strip e
  | [], _, _, h => by simp [stripL] at h
  | x :: l, 0, d, h => ⟨x, rfl, by simpa [stripL] using h.symm⟩
  | x :: l, j + 1, d, h => by
    obtain ⟨e, a, b⟩ := stripL_get (l := l) (j := j) (by simpa [stripL] using h)
    exact ⟨e, by simpa using a, b⟩

theorem stripL_length : ∀ l : List D, (stripL l).length = l.length
  | [] => rfl
  | _ :: l => by simp [stripL, stripL_length l]

theorem Rel.strip {v : Value} {d : D} (h : Rel dp F G w v d) : Rel dp F G w v (strip d) := by
  cases h with
  | agg vs ds hl h =>
    refine .agg vs _ (by rw [strip1L_length]; exact hl) fun j v d hv hd => ?_
    obtain ⟨e, he, rfl⟩ := strip1L_get hd
    exact (h j v e hv he).strip1
  | nil k o => exact .nil k .ro
  | sl k xs o blk off cap c hk hcap h1 h2 ho => exact .sl k xs .ro blk off cap c hk hcap h1 h2 trivial
  | top v => exact .top v
  | b x => exact .b x
  | i k n => exact .i k n
  | s l => exact .s l
  | tup vs ds hl h => exact .tup vs ds hl h
  | bx id o g hg => exact .bx id o g hg
  | el cs blk base o c h1 h2 => exact .el cs blk base o c h1 h2
  | ar k id o n cap g hg hn => exact .ar k id o n cap g hg hn
  | nilp => exact .nilp
  | nilm => exact .nilm
  | mp id g hg => exact .mp id g hg
  | fn g f hf vs ds hl h => exact .fn g f hf vs ds hl h

theorem Rel.stripT {v : Value} {d : D} (h : Rel dp F G w v d) : Rel dp F G w v (stripT d) := by
  cases h with
  | tup vs ds hl h =>
    refine .tup vs _ (by rw [stripL_length]; exact hl) fun j v d hv hd => ?_
    obtain ⟨e, he, rfl⟩ := stripL_get hd
    exact (h j v e hv he).strip
  | agg vs ds hl h => exact (Rel.agg vs ds hl h).strip
  | nil k o => exact .nil k .ro
  | sl k xs o blk off cap c hk hcap h1 h2 ho => exact .sl k xs .ro blk off cap c hk hcap h1 h2 trivial
  | top v => exact .top v
  | b x => exact .b x
  | i k n => exact .i k n
  | s l => exact .s l
  | bx id o g hg => exact .bx id o g hg
  | el cs blk base o c h1 h2 => exact .el cs blk base o c h1 h2
  | ar k id o n cap g hg hn => exact .ar k id o n cap g hg hn
  | nilp => exact .nilp
  | nilm => exact .nilm
  | mp id g hg => exact .mp id g hg
  | fn g f hf vs ds hl h => exact .fn g f hf vs ds hl h

theorem Ext.refl (F : Fix) (G : List Gh) (w : World) (S : Store) : Ext F G w S F G w S :=
  ⟨fun _ _ h => h, fun _ _ h => h, fun _ _ _ => rfl, fun _ _ _ => rfl, fun _ h => .inl h, fun _ _ h => .inl h, Nat.le_refl _, rfl, rfl, rfl⟩

theorem Ext.trans {F1 F2 F3 : Fix} {G1 G2 G3 : List Gh} {w1 w2 w3 : World} {S1 S2 S3 : Store} (h : Ext F1 G1 w1 S1 F2 G2 w2 S2) (k : Ext F2 G2 w2 S2 F3 G3 w3 S3) :
    Ext F1 G1 w1 S1 F3 G3 w3 S3 where
  fsub b o x := k.fsub b o (h.fsub b o x)
  gsub id g x := k.gsub id g (h.gsub id g x)
  cells b o x := (k.cells b o (h.fsub b o x)).trans (h.cells b o x)
  frame b hb hn := by
    rw [k.frame b (Nat.lt_of_lt_of_le hb h.size) fun hx => ?_]
    · exact h.frame b hb hn
    · rcases h.own b hx with hx | hx
      · exact hn hx
      · omega
  own b hx := by
    rcases k.own b hx with hx | hx
    · exact h.own b hx
    · have := h.size; exact .inr (by omega)
  fnew b o hx := by
    rcases k.fnew b o hx with hx | hx | hx
    · exact h.fnew b o hx
    · exact .inr (h.own b hx)
    · have := h.size; exact .inr (.inr (by omega))
  size := Nat.le_trans h.size k.size
  os := k.os.trans h.os
  tape := k.tape.trans h.tape
  output := k.output.trans h.output

end

end Go.Proofs.YtjlmeikcfdanmaaGreatDoor.DE
