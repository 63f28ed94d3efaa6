/-
  SEVERAL TEXTS IN ONE (joined by tools/assemble.py of this repository): De25, Rw, Sa, Ta, Va, Vb, Vc, Vd, Ve, Sb, Tb, Vh, Vi, Sc, Vj, Vk, Sd, Tc, Vm, Vn, Te, Sg, Wa.
-/
import Derived.Test.YtjlmeikcfdanmaaGreatDoorQr3
import Derived.Test.YtjlmeikcfdanmaaGreatDoorRows
import Derived.ProofKit
import Derived.Deep.Slices
import Derived.Deep.Strs
import Derived.KernelRfl
import GoSem.Dispatch
set_option linter.unusedVariables false
set_option linter.unusedSimpArgs false
namespace Go.Proofs.YtjlmeikcfdanmaaGreatDoor.DE.V
open Go

/-! The store. -/
theorem sget_lt {α : Type} {e : α} : ∀ {S : List α} {id : Nat}, sget S id = some e → id < S.length
  | [], _, h => by simp [sget] at h
  | x :: S, id, h => by
    simp only [sget] at h
    split at h
    · rename_i q; simp [q]
    · have := sget_lt h; simp; omega

@[simp] theorem sget_top {α : Type} (e : α) (S : List α) : sget (e :: S) S.length = some e := by simp [sget]
theorem sget_push {α : Type} {e x : α} {S : List α} {id : Nat} (h : sget S id = some x) : sget (e :: S) id = some x := by
  have := sget_lt h
  simp only [sget]
  rw [if_neg (by omega)]; exact h
@[simp] theorem sset_top {α : Type} (e x : α) (S : List α) : sset (e :: S) S.length x = x :: S := by simp [sset]
theorem sset_len {α : Type} (x : α) : ∀ (S : List α) (id : Nat), (sset S id x).length = S.length
  | [], _ => rfl
  | e :: S, id => by
    simp only [sset]
    split
    · rfl
    · simp [sset_len x S id]
theorem sget_sset {α : Type} (x : α) : ∀ {S : List α} {id : Nat}, id < S.length → sget (sset S id x) id = some x
  | [], _, h => by simp at h
  | e :: S, id, h => by
    simp only [sset]
    split
    · rename_i q; simp [sget, q]
    · rename_i q
      simp only [sget, sset_len]
      rw [if_neg q]
      exact sget_sset x (by simp at h; omega)
theorem sget_sset_ne {α : Type} (x : α) : ∀ {S : List α} {id j : Nat}, j ≠ id → sget (sset S id x) j = sget S j
  | [], _, _, _ => rfl
  | e :: S, id, j, h => by
    simp only [sset]
    split
    · rename_i q
      subst q
      simp [sget, h]
    · simp only [sget, sset_len]
      rw [sget_sset_ne x h]

/-! A truth value is split where it comes up. -/
@[simp high] theorem OX_b (c : Bool) (K : D → Prop) : OX (some (.b c)) K = if c = true then K (.b true) else K (.b false) := by cases c <;> rfl
theorem OX_none {α : Type} (K : α → Prop) : OX none K = False := rfl

/-! Integers of the machine. -/
def in64 (n : Int) : Prop := -9223372036854775808 ≤ n ∧ n ≤ 9223372036854775807
/-! Values. -/
abbrev Row := Int × Int
abbrev Nd := Int × Int × Int

def eRow (r : Row) : List D := [.i .i64 r.1, .i .i64 r.2]
def eNd (x : Nd) : List D := [.i .i64 x.1, .i .i64 x.2.1, .i .i64 x.2.2]
def eRows (nl : Bool) (l : List Row) : D := .sl 2 nl (l.map eRow) .ro
def eNds (nl : Bool) (l : List Nd) : D := .sl 3 nl (l.map eNd) .ro
def eB (nl nl' : Bool) (ord : List Row) (ns : List Nd) (root : Int) : D := .agg [eRows nl ord, eNds nl' ns, .i .i64 root]

def okRow (r : Row) : Prop := in64 r.1 ∧ in64 r.2
def okNd64 (r : Nd) : Prop := in64 r.1 ∧ in64 r.2.1 ∧ in64 r.2.2
def rowOk (r : Row) : Bool := decide (1 ≤ r.1) && decide (1 ≤ r.2)

theorem noRefL_eRow (r : Row) : noRefL (eRow r) = true := rfl
theorem noRefL_eNd (r : Nd) : noRefL (eNd r) = true := rfl
theorem noRefLL_map {α : Type} (f : α → List D) (h : ∀ x, noRefL (f x) = true) : ∀ l : List α, noRefLL (l.map f) = true
  | [] => rfl
  | x :: l => by simp [noRefLL, h x, noRefLL_map f h l]
@[simp] theorem noRef_eRows (nl : Bool) (l : List Row) : noRef (eRows nl l) = true := by simp [eRows, noRef, noRefLL_map eRow noRefL_eRow l]
@[simp] theorem noRef_eNds (nl : Bool) (l : List Nd) : noRef (eNds nl l) = true := by simp [eNds, noRef, noRefLL_map eNd noRefL_eNd l]
@[simp] theorem noRef_eB (nl nl' : Bool) (ord : List Row) (ns : List Nd) (root : Int) : noRef (eB nl nl' ord ns root) = true := by simp [eB, noRef, noRefL]
@[simp] theorem noRef_row (r : Row) : noRef (.agg (eRow r)) = true := (rfl)
@[simp] theorem noRef_nd (r : Nd) : noRef (.agg (eNd r)) = true := (rfl)
@[simp] theorem strip_eRows (nl : Bool) (l : List Row) : strip (eRows nl l) = eRows nl l := (rfl)
@[simp] theorem strip_eNds (nl : Bool) (l : List Nd) : strip (eNds nl l) = eNds nl l := (rfl)
@[simp] theorem strip_eB (nl nl' : Bool) (ord : List Row) (ns : List Nd) (root : Int) : strip (eB nl nl' ord ns root) = eB nl nl' ord ns root := (rfl)
@[simp] theorem strip_row (r : Row) : strip (.agg (eRow r)) = .agg (eRow r) := (rfl)
@[simp] theorem strip_nd (r : Nd) : strip (.agg (eNd r)) = .agg (eNd r) := (rfl)
@[simp] theorem strip_i (k : IntKind) (n : Int) : strip (.i k n) = .i k n := (rfl)
@[simp] theorem strip_b (n : Bool) : strip (.b n) = .b n := (rfl)
@[simp] theorem stripT_eRows (nl : Bool) (l : List Row) : stripT (eRows nl l) = eRows nl l := (rfl)
@[simp] theorem stripT_eNds (nl : Bool) (l : List Nd) : stripT (eNds nl l) = eNds nl l := (rfl)
@[simp] theorem stripT_eB (nl nl' : Bool) (ord : List Row) (ns : List Nd) (root : Int) : stripT (eB nl nl' ord ns root) = eB nl nl' ord ns root := (rfl)
@[simp] theorem stripT_i (k : IntKind) (n : Int) : stripT (.i k n) = .i k n := (rfl)
@[simp] theorem stripT_b (n : Bool) : stripT (.b n) = .b n := (rfl)
@[simp] theorem noRef_i (k : IntKind) (n : Int) : noRef (.i k n) = true := (rfl)
@[simp] theorem noRef_b (n : Bool) : noRef (.b n) = true := (rfl)

theorem wrap64 {n : Int} (h : in64 n) : IntKind.wrap .i64 n = n := by
  obtain ⟨h1, h2⟩ := h
  rcases Int.lt_or_le n 0 with h | h
  · have e : n % 18446744073709551616 = n + 18446744073709551616 := by omega
    simp [IntKind.wrap, IntKind.signed, IntKind.bits, e]
    omega
  · have e : n % 18446744073709551616 = n := by omega
    simp [IntKind.wrap, IntKind.signed, IntKind.bits, e]
    omega

/-! Slices of structs. -/
theorem lenD_rows (nl : Bool) (l : List Row) : lenD false (eRows nl l) = some (.i .i64 l.length) := by simp [eRows, lenD]
theorem lenD_nds (nl : Bool) (l : List Nd) : lenD false (eNds nl l) = some (.i .i64 l.length) := by simp [eNds, lenD]
theorem iaD_rows {nl : Bool} {l : List Row} {n : Nat} {r : Row} (k : IntKind) (h : l[n]? = some r) : iaD 2 (eRows nl l) (.i k n) = some (.el (eRow r) 0) := by simp [eRows, iaD, h]
theorem iaD_nds {nl : Bool} {l : List Nd} {n : Nat} {r : Nd} (k : IntKind) (h : l[n]? = some r) : iaD 3 (eNds nl l) (.i k n) = some (.el (eNd r) 0) := by simp [eNds, iaD, h]
theorem iaD_nds' {nl : Bool} {l : List Nd} {n : Int} {r : Nd} (k : IntKind) (h0 : 0 ≤ n) (h : l[n.toNat]? = some r) : iaD 3 (eNds nl l) (.i k n) = some (.el (eNd r) 0) := by simp [eNds, iaD, h, h0]
@[simp] theorem ldD_el_row (S : Store) (r : Row) : ldD S 2 true (.el (eRow r) 0) = some (.agg (eRow r)) := by simp [ldD, rdK, eRow]
@[simp] theorem ldD_el_nd (S : Store) (r : Nd) : ldD S 3 true (.el (eNd r) 0) = some (.agg (eNd r)) := by simp [ldD, rdK, eNd]

theorem seqL_row (r s : Row) : seqL [.i, .i] (eRow r) (eRow s) = some (decide (r = s)) := by
  have : decide (r = s) = (r.1 == s.1 && r.2 == s.2) := by
    rw [Bool.eq_iff_iff]; simp [Prod.ext_iff]
  simp [eRow, seqL, isSK, seq1, this]
theorem seqL_nd (r s : Nd) : seqL [.i, .i, .i] (eNd r) (eNd s) = some (decide (r = s)) := by
  have : decide (r = s) = (r.1 == s.1 && (r.2.1 == s.2.1 && r.2.2 == s.2.2)) := by
    rw [Bool.eq_iff_iff]; simp [Prod.ext_iff]
  simp [eNd, seqL, isSK, seq1, this]

theorem isKey_row (r : Row) : isKey (.agg [.i, .i]) (.agg (eRow r)) = true := rfl
theorem isKey_nd (r : Nd) : isKey (.agg [.i, .i, .i]) (.agg (eNd r)) = true := rfl
theorem isKey_i (k : IntKind) (r : Int) : isKey (.one .i) (.i k r) = true := rfl

/-! The operations where the values' shapes are seen. -/
section
variable (k : IntKind) (a b : Int) (S : Store) (cs : List D) (id o p : Nat) (K : D → Store → Prop)
def ldE : Option Ent → Nat → Bool → Nat → Option D
  | some (.box cs), k, g, o => rdK cs o k g
  | _, _, _, _ => none
@[simp] theorem ldD_bx (k : Nat) (g : Bool) : ldD S k g (.bx id o) = ldE (sget S id) k g o := by
  simp only [ldD, ldE]
  cases sget S id with
  | none => rfl
  | some e => cases e <;> rfl
@[simp] theorem ldE_box (k : Nat) (g : Bool) : ldE (some (.box cs)) k g o = rdK cs o k g := (rfl)
@[simp] theorem ldD_el (k : Nat) (g : Bool) : ldD S k g (.el cs o) = rdK cs o k g := (rfl)
@[simp] theorem rdK_one (k : Nat) : rdK cs o k false = cs[o]? := (rfl)
theorem rdK_all {cs : List D} {k : Nat} (h : cs.length = k) : rdK cs 0 k true = some (.agg cs) := by
  subst h; simp [rdK]
@[simp] theorem rdK_row (r : Row) : rdK (eRow r) 0 2 true = some (.agg (eRow r)) := rdK_all rfl
@[simp] theorem rdK_nd (r : Nd) : rdK (eNd r) 0 3 true = some (.agg (eNd r)) := rdK_all rfl
@[simp] theorem rdK_lit1 (x : D) : rdK [x] 0 1 true = some (.agg [x]) := (rfl)
@[simp] theorem rdK_lit2 (x y : D) : rdK [x, y] 0 2 true = some (.agg [x, y]) := (rfl)
@[simp] theorem rdK_lit3 (x y z : D) : rdK [x, y, z] 0 3 true = some (.agg [x, y, z]) := (rfl)
@[simp high] theorem row_0 (r : Row) : (eRow r)[0]? = some (.i .i64 r.1) := (rfl)
@[simp high] theorem row_1 (r : Row) : (eRow r)[1]? = some (.i .i64 r.2) := (rfl)
@[simp high] theorem nd_0 (r : Nd) : (eNd r)[0]? = some (.i .i64 r.1) := (rfl)
@[simp high] theorem nd_1 (r : Nd) : (eNd r)[1]? = some (.i .i64 r.2.1) := (rfl)
@[simp high] theorem nd_2 (r : Nd) : (eNd r)[2]? = some (.i .i64 r.2.2) := (rfl)
@[simp] theorem row_len (r : Row) : (eRow r).length = 2 := (rfl)
@[simp] theorem nd_len (r : Nd) : (eNd r).length = 3 := (rfl)
@[simp] theorem allCell_row (r : Row) : allCell (eRow r) = true := (rfl)
@[simp] theorem allCell_nd (r : Nd) : allCell (eNd r) = true := (rfl)
@[simp] theorem isCell_rows (nl : Bool) (l : List Row) : isCell (eRows nl l) = true := (rfl)
@[simp] theorem isCell_nds (nl : Bool) (l : List Nd) : isCell (eNds nl l) = true := (rfl)
@[simp] theorem isCell_i : isCell (.i k a) = true := (rfl)
@[simp] theorem isCell_b (c : Bool) : isCell (.b c) = true := (rfl)
@[simp] theorem isCell_bx : isCell (.bx id o) = true := (rfl)
@[simp] theorem isCell_mp : isCell (.mp id) = true := (rfl)
@[simp] theorem isCell_fn : isCell (.fn id cs) = true := (rfl)
@[simp] theorem isCell_nilm : isCell .nilm = true := (rfl)
@[simp] theorem isCell_sl (k : Nat) (n : Bool) (xs : List (List D)) (o : Own) : isCell (.sl k n xs o) = true := (rfl)
@[simp] theorem allCell_nil : allCell [] = true := (rfl)
@[simp] theorem allCell_cons (x : D) : allCell (x :: cs) = (isCell x && allCell cs) := (rfl)
@[simp] theorem faD_bx : faD o (.bx id p) = some (.bx id (p + o)) := (rfl)
@[simp] theorem faD_el : faD o (.el cs p) = some (.el cs (p + o)) := (rfl)
theorem cellsK_agg {cs : List D} {k : Nat} (h : cs.length = k) (h' : allCell cs = true) : cellsK k true (.agg cs) = some cs := by simp [cellsK, h, h']
@[simp] theorem cellsK_row (r : Row) : cellsK 2 true (.agg (eRow r)) = some (eRow r) := (rfl)
@[simp] theorem cellsK_nd (r : Nd) : cellsK 3 true (.agg (eNd r)) = some (eNd r) := (rfl)
@[simp] theorem cellsK_eB (nl nl' : Bool) (ord : List Row) (ns : List Nd) (root : Int) : cellsK 3 true (eB nl nl' ord ns root) = some [eRows nl ord, eNds nl' ns, .i .i64 root] := (rfl)
@[simp] theorem cellsK_i (m : Nat) : cellsK m false (.i k a) = some [.i k a] := (rfl)
@[simp] theorem cellsK_b (m : Nat) (c : Bool) : cellsK m false (.b c) = some [.b c] := (rfl)
@[simp] theorem cellsK_bx (m : Nat) : cellsK m false (.bx id o) = some [.bx id o] := (rfl)
@[simp] theorem cellsK_mp (m : Nat) : cellsK m false (.mp id) = some [.mp id] := (rfl)
@[simp] theorem cellsK_fn (m : Nat) : cellsK m false (.fn id cs) = some [.fn id cs] := (rfl)
@[simp] theorem cellsK_rows (m : Nat) (nl : Bool) (l : List Row) : cellsK m false (eRows nl l) = some [eRows nl l] := (rfl)
@[simp] theorem cellsK_nds (m : Nat) (nl : Bool) (l : List Nd) : cellsK m false (eNds nl l) = some [eNds nl l] := (rfl)
@[simp] theorem cellsK_sl (m k : Nat) (n : Bool) (xs : List (List D)) (o : Own) : cellsK m false (.sl k n xs o) = some [.sl k n xs o] := (rfl)
@[simp] theorem cellsK_lit3 (x y z : D) (hx : isCell x = true) (hy : isCell y = true) (hz : isCell z = true) : cellsK 3 true (.agg [x, y, z]) = some [x, y, z] := cellsK_agg rfl (by simp [hx, hy, hz])
@[simp] theorem cellsK_lit2 (x y : D) (hx : isCell x = true) (hy : isCell y = true) : cellsK 2 true (.agg [x, y]) = some [x, y] := cellsK_agg rfl (by simp [hx, hy])
@[simp] theorem bxx_eq (k : Nat) (g : Bool) (x : D) : bxx k g x S K = OX (cellsK k g x) fun cs => K (.bx S.length 0) (.box cs :: S) := (rfl)
@[simp] theorem al_eq (z : List D) : al z S K = K (.bx S.length 0) (.box z :: S) := (rfl)
@[simp] theorem mm_eq : mm S K = K (.mp S.length) (.map [] :: S) := (rfl)
@[simp] theorem bin_geq : binD .geq .num (.i k a) (.i k b) = some (.b (decide (b ≤ a))) := by simp [binD, intOp]
@[simp] theorem bin_leq : binD .leq .num (.i k a) (.i k b) = some (.b (decide (a ≤ b))) := by simp [binD, intOp]
@[simp] theorem bin_lss : binD .lss .num (.i k a) (.i k b) = some (.b (decide (a < b))) := by simp [binD, intOp]
@[simp] theorem bin_gtr : binD .gtr .num (.i k a) (.i k b) = some (.b (decide (b < a))) := by simp [binD, intOp]
@[simp] theorem bin_eql : binD .eql .num (.i k a) (.i k b) = some (.b (decide (a = b))) := by
  simp only [binD, intOp, if_true]; congr 2
@[simp] theorem bin_neq : binD .neq .num (.i k a) (.i k b) = some (.b (!decide (a = b))) := by
  simp only [binD, intOp, if_true]; congr 2
@[simp] theorem bin_add : binD .add .num (.i k a) (.i k b) = some (.i k (k.wrap (a + b))) := by simp [binD, intOp]
@[simp] theorem bin_sub : binD .sub .num (.i k a) (.i k b) = some (.i k (k.wrap (a - b))) := by simp [binD, intOp]
@[simp] theorem bin_beql (c d : Bool) : binD .eql .bool (.b c) (.b d) = some (.b (c == d)) := (rfl)
@[simp] theorem bin_bneq (c d : Bool) : binD .neq .bool (.b c) (.b d) = some (.b (!(c == d))) := (rfl)
@[simp] theorem bin_eql_row (r s : Row) : binD .eql (.agg [.i, .i]) (.agg (eRow r)) (.agg (eRow s)) = some (.b (decide (r = s))) := by simp only [binD, seqL_row, eqD]
@[simp] theorem bin_neq_row (r s : Row) : binD .neq (.agg [.i, .i]) (.agg (eRow r)) (.agg (eRow s)) = some (.b (!decide (r = s))) := by simp only [binD, seqL_row, eqD]
@[simp] theorem bin_eql_nd (r s : Nd) : binD .eql (.agg [.i, .i, .i]) (.agg (eNd r)) (.agg (eNd s)) = some (.b (decide (r = s))) := by simp only [binD, seqL_nd, eqD]
@[simp] theorem bin_neq_nd (r s : Nd) : binD .neq (.agg [.i, .i, .i]) (.agg (eNd r)) (.agg (eNd s)) = some (.b (!decide (r = s))) := by simp only [binD, seqL_nd, eqD]
@[simp] theorem bin_nil_rows (nl : Bool) (l : List Row) (m : Nat) (o : Own) : binD .eql .sl (eRows nl l) (.sl m true [] o) = some (.b nl) := (rfl)
@[simp] theorem bin_nil_nds (nl : Bool) (l : List Nd) (m : Nat) (o : Own) : binD .eql .sl (eNds nl l) (.sl m true [] o) = some (.b nl) := (rfl)
@[simp] theorem bin_mapnil : binD .eql .map (.mp id) .nilm = some (.b false) := (rfl)
@[simp] theorem bin_nilmap : binD .eql .map .nilm .nilm = some (.b true) := (rfl)
@[simp] theorem un_not (c : Bool) : unD .not (.b c) = some (.b (!c)) := (rfl)
@[simp] theorem pick_t (x y : D) : pickD (.b true) x y = some x := (rfl)
@[simp] theorem pick_f (x y : D) : pickD (.b false) x y = some y := (rfl)
@[simp] theorem ext_eq (j : Nat) : extD (.tup cs) j = cs[j]? := (rfl)
@[simp] theorem fnD_fn : fnD (.fn id cs) = some (id, cs) := (rfl)
@[simp] theorem lenD_rows' (nl : Bool) (l : List Row) : lenD false (eRows nl l) = some (.i .i64 l.length) := lenD_rows nl l
@[simp] theorem lenD_nds' (nl : Bool) (l : List Nd) : lenD false (eNds nl l) = some (.i .i64 l.length) := lenD_nds nl l
@[simp] theorem lenD_sl (k : Nat) (n : Bool) (xs : List (List D)) (o : Own) : lenD false (.sl k n xs o) = some (.i .i64 xs.length) := (rfl)
@[simp] theorem cellsV_nil (k : Nat) (g : Bool) : cellsV k g [] = some [] := (rfl)
@[simp] theorem cellsV_nd (r : Nd) : cellsV 3 true [.agg (eNd r)] = some [eNd r] := (rfl)
@[simp] theorem cellsV_row (r : Row) : cellsV 2 true [.agg (eRow r)] = some [eRow r] := (rfl)
@[simp] theorem cellsV_i : cellsV 1 false [.i k a] = some [[.i k a]] := (rfl)
@[simp] theorem cellsV_b (c : Bool) : cellsV 1 false [.b c] = some [[.b c]] := (rfl)
@[simp] theorem bslO_nil (k : Nat) : bslO k [] S = (.sl k false [] .cap0, S) := (rfl)
theorem app_cap0 {k : Nat} {n n' : Bool} {ys : List (List D)} {o : Own} (h : ys.length ≤ maxLenD) : appD k false (.sl k n [] .cap0) (.sl k n' ys o) S = some (if ys = [] then (.sl k n [] .cap0, S) else (.sl k false ys (.tok S.length), .tok true :: S)) := by
  simp only [appD, List.length_nil, Nat.zero_add, h, and_self, true_or, if_true]
  cases ys <;> rfl
theorem app_nil {k : Nat} {n' : Bool} {ys : List (List D)} {o o' : Own} (h : ys.length ≤ maxLenD) (ho : ∀ t, o ≠ .tok t) : appD k false (.sl k true [] o) (.sl k n' ys o') S = some (if ys = [] then (.sl k true [] o, S) else (.sl k false ys (.tok S.length), .tok true :: S)) := by
  simp only [appD, List.length_nil, Nat.zero_add, h, and_self, true_or, if_true]
  cases o with
  | tok t => exact absurd rfl (ho t)
  | ro => cases ys <;> rfl
  | cap0 => cases ys <;> rfl
theorem app_tok {k : Nat} {n' : Bool} {xs ys : List (List D)} {o' : Own} {t : Nat} (h : xs.length + ys.length ≤ maxLenD) (hs : sget S t = some (.tok true)) : appD k false (.sl k false xs (.tok t)) (.sl k n' ys o') S = some (.sl k false (xs ++ ys) (.tok S.length), .tok true :: sset S t (.tok false)) := by
  simp only [appD, h, and_self, true_or, if_true, hs]
  rfl
def stE : Option Ent → Store → Nat → Nat → Bool → Nat → D → Option Store
  | some (.box cs), S, id, k, g, o, v => match cellsK k g v with
    | some l => if o + k ≤ cs.length then some (sset S id (.box (splice cs o l))) else none
    | none => none
  | _, _, _, _, _, _, _ => none
@[simp] theorem stD_bx (k : Nat) (g : Bool) (v : D) : stD S k g (.bx id o) v = stE (sget S id) S id k g o v := by
  simp only [stD, stE]
  cases sget S id with
  | none => rfl
  | some e => cases e <;> rfl
theorem stE_box {k : Nat} {g : Bool} {v : D} {l : List D} (h : cellsK k g v = some l) (h' : o + k ≤ cs.length) : stE (some (.box cs)) S id k g o v = some (sset S id (.box (splice cs o l))) := by
  simp only [stE, h, if_pos h']
@[simp] theorem stE_box' (k : Nat) (g : Bool) (v : D) : stE (some (.box cs)) S id k g o v = (cellsK k g v).bind fun l => if o + k ≤ cs.length then some (sset S id (.box (splice cs o l))) else none := by
  simp only [stE]
  cases cellsK k g v <;> rfl
@[simp] theorem splice_nil : splice cs o [] = cs := (rfl)
@[simp] theorem splice_cons (x : D) (l : List D) : splice cs o (x :: l) = splice (fset cs o x) (o + 1) l := (rfl)
@[simp] theorem fset_zero (x y : D) : fset (x :: cs) 0 y = y :: cs := (rfl)
@[simp] theorem fset_succ (x y : D) (n : Nat) : fset (x :: cs) (n + 1) y = x :: fset cs n y := (rfl)
@[simp] theorem splice_row (x y : D) (r : Row) : splice [x, y] 0 (eRow r) = eRow r := (rfl)
@[simp] theorem splice_nd (x y z : D) (r : Nd) : splice [x, y, z] 0 (eNd r) = eNd r := (rfl)
theorem cellsK_cell {v : D} (h : isCell v = true) (k : Nat) : cellsK k false v = some [v] := by simp [cellsK, h]
@[simp high] theorem stE1_0 (x v : D) (h : isCell v = true) : stE (some (.box [x])) S id 1 false 0 v = some (sset S id (.box [v])) := by simp [cellsK_cell h]
@[simp high] theorem stE2_0 (x y v : D) (h : isCell v = true) : stE (some (.box [x, y])) S id 1 false 0 v = some (sset S id (.box [v, y])) := by simp [cellsK_cell h]
@[simp high] theorem stE2_1 (x y v : D) (h : isCell v = true) : stE (some (.box [x, y])) S id 1 false 1 v = some (sset S id (.box [x, v])) := by simp [cellsK_cell h]
@[simp high] theorem stE3_0 (x y z v : D) (h : isCell v = true) : stE (some (.box [x, y, z])) S id 1 false 0 v = some (sset S id (.box [v, y, z])) := by simp [cellsK_cell h]
@[simp high] theorem stE3_1 (x y z v : D) (h : isCell v = true) : stE (some (.box [x, y, z])) S id 1 false 1 v = some (sset S id (.box [x, v, z])) := by simp [cellsK_cell h]
@[simp high] theorem stE3_2 (x y z v : D) (h : isCell v = true) : stE (some (.box [x, y, z])) S id 1 false 2 v = some (sset S id (.box [x, y, v])) := by simp [cellsK_cell h]
@[simp] theorem stripL_nil : stripL [] = [] := (rfl)
@[simp] theorem stripL_cons (x : D) : stripL (x :: cs) = strip x :: stripL cs := (rfl)
@[simp] theorem stripT_tup : stripT (.tup cs) = .tup (stripL cs) := (rfl)
@[simp] theorem sget_cons (e : Ent) : sget (e :: S) id = if id = S.length then some e else sget S id := (rfl)
@[simp] theorem sset_cons (e x : Ent) : sset (e :: S) id x = if id = S.length then x :: S else e :: sset S id x := (rfl)
end

/-! Equality of values: each is equal to itself. -/
theorem oeq_self (o : Own) : oeq o o = true := by cases o <;> simp [oeq]
mutual
theorem deq_self : ∀ d : D, deq d d = true
  | .top => rfl
  | .b x => by simp [deq]
  | .i k n => by simp [deq]
  | .s l => by simp [deq]
  | .sl k n xs o => by simp [deq, oeq_self, deqLL_self xs]
  | .agg cs => by simp [deq, deqL_self cs]
  | .tup cs => by simp [deq, deqL_self cs]
  | .bx a b => by simp [deq]
  | .el cs o => by simp [deq, deqL_self cs]
  | .ar a b c d => by simp [deq]
  | .nilp => rfl
  | .nilm => rfl
  | .mp a => by simp [deq]
  | .fn g cs => by simp [deq, deqL_self cs]
theorem deqL_self : ∀ l : List D, deqL l l = true
  | [] => rfl
  | x :: l => by simp [deqL, deq_self x, deqL_self l]
theorem deqLL_self : ∀ l : List (List D), deqLL l l = true
  | [] => rfl
  | x :: l => by simp [deqLL, deqL_self x, deqLL_self l]
end
attribute [simp] deq_self

/-! A map whose values stand in a list of pairs, by the texts of the keys. -/
def assoc {α β : Type} [DecidableEq α] (a : α) : List (α × β) → Option β
  | [] => none
  | (k, v) :: es => if a = k then some v else assoc a es

theorem assoc_none {α β : Type} [DecidableEq α] {a : α} : ∀ {es : List (α × β)}, assoc a es = none ↔ ∀ p, p ∈ es → p.1 ≠ a
  | [] => by simp [assoc]
  | (k, v) :: es => by
    simp only [assoc]
    split
    · rename_i h
      simp only [List.mem_cons, reduceCtorEq, false_iff]
      intro q
      exact q (k, v) (Or.inl rfl) h.symm
    · rename_i h
      rw [assoc_none]
      constructor
      · intro q p hp
        rcases List.mem_cons.1 hp with hp | hp
        · subst hp; exact fun e => h e.symm
        · exact q p hp
      · exact fun q p hp => q p (List.mem_cons_of_mem _ hp)

theorem assoc_app {α β : Type} [DecidableEq α] (a : α) (fs : List (α × β)) : ∀ es : List (α × β), assoc a (es ++ fs) = match assoc a es with | some v => some v | none => assoc a fs
  | [] => rfl
  | (k, v) :: es => by
    simp only [List.cons_append, assoc]
    split
    · rfl
    · exact assoc_app a fs es

/-- The kind of key by which a map is read: ek is injective to the eyes of 'keq'. -/
def KeyE {α : Type} [DecidableEq α] (kk : KK) (ek : α → D) : Prop := ∀ a b, keq kk (ek a) (ek b) = some (decide (a = b))

theorem keyE_row : KeyE (.agg [.i, .i]) (fun r : Row => .agg (eRow r)) := fun a b => by simp only [keq]; exact seqL_row a b
theorem keyE_nd : KeyE (.agg [.i, .i, .i]) (fun r : Nd => .agg (eNd r)) := fun a b => by simp only [keq]; exact seqL_nd a b
theorem keyE_i : KeyE (.one .i) (fun r : Int => .i .i64 r) := fun a b => by
  simp only [keq, isSK, seq1, Bool.and_self, if_true]
  congr 1

section
variable {α β : Type} [DecidableEq α] {kk : KK} {ek : α → D} {ev : β → D}
def eMap (ek : α → D) (ev : β → D) (es : List (α × β)) : List (D × D) := es.map fun p => (ek p.1, ev p.2)

theorem lkD_map (h : KeyE kk ek) (a : α) : ∀ es : List (α × β), lkD kk (ek a) (eMap ek ev es) = some ((assoc a es).map ev)
  | [] => rfl
  | (k, v) :: es => by
    simp only [eMap, List.map_cons, lkD, h a k, assoc]
    by_cases e : a = k
    · simp [e]
    · simp only [e, decide_false, if_false]
      exact lkD_map h a es

theorem muD_new (h : KeyE kk ek) (a : α) (b : β) : ∀ es : List (α × β), assoc a es = none → muD kk (ek a) (ev b) (eMap ek ev es) = some (eMap ek ev (es ++ [(a, b)]))
  | [], _ => rfl
  | (k, v) :: es, q => by
    simp only [assoc] at q
    split at q
    · cases q
    · rename_i e
      have := muD_new h a b es q
      simp only [eMap] at this
      simp only [eMap, List.map_cons, muD, h a k, e, decide_false, this, List.cons_append, Option.map_some]

theorem lkD'_mp (h : KeyE kk ek) {a : α} (hk : isKey kk (ek a) = true) {S : Store} {id : Nat} {es : List (α × β)} (hS : sget S id = some (.map (eMap ek ev es))) (ok : Bool) (z : D) :
    lkD' kk ok z S (.mp id) (ek a) = some (okD ok z ((assoc a es).map ev)) := by
  simp only [lkD', hk, if_true, hS, lkD_map h, Option.map_some]

theorem muD'_new (h : KeyE kk ek) {a : α} {b : β} (hk : isKey kk (ek a) = true) {S : Store} {id : Nat} {es : List (α × β)} (hS : sget S id = some (.map (eMap ek ev es))) (ha : assoc a es = none) :
    muD' kk S (.mp id) (ek a) (ev b) = some (sset S id (.map (eMap ek ev (es ++ [(a, b)])))) := by
  simp only [muD', hk, if_true, hS, muD_new h a b es ha, Option.map_some]
end

@[simp] theorem okD_tn (z : D) : okD true z none = .tup [z, .b false] := (rfl)
@[simp] theorem okD_ts (z v : D) : okD true z (some v) = .tup [v, .b true] := (rfl)
@[simp] theorem okD_fn (z : D) : okD false z none = z := (rfl)
@[simp] theorem okD_fs (z v : D) : okD false z (some v) = v := (rfl)

end Go.Proofs.YtjlmeikcfdanmaaGreatDoor.DE.V

namespace Go.Proofs.YtjlmeikcfdanmaaGreatDoor.DE.V
open Go Go.ChangeShapes Go.WideShapes Go.RowKit
set_option maxRecDepth 100000

/-- Each cell that is there. -/
def there (w : World) : Fix := fun b o => ∃ v, w.cell? ⟨b, o, none⟩ = some v

theorem sim0 {dp : Nat → Option Fn} (w : World) : Sim dp (there w) [] w [] :=
  ⟨rfl, fun _ _ h => h, fun _ _ _ h => by (cases h), fun _ _ _ _ _ _ _ h => by (cases h)⟩

section
variable {H : Type} {enc : TypeId × Value → H} {w : World} {base : Nat} {spare : Nat → Bool} {held : Bool} {fuel : Nat} {cs : List Value} {x : DataW H × List MemPlace}

theorem wf64 {n : Int} (h : (Lit.int .i64 n).wf = true) : in64 n := by
  simp only [Lit.wf, Bool.and_eq_true, decide_eq_true_eq] at h
  exact h

theorem rd_int (h : DataW.trod enc Tryz.prog w base spare held fuel 3 cs = some x) : ∃ n, cs = [.int .i64 n] ∧ in64 n := by
  obtain ⟨n, h1, _, h2⟩ := DataW.trod_int Tryz.underlying3 h
  exact ⟨n, h1, wf64 h2⟩

theorem cells27 : Tryz.prog.cellsOf 27 = 2 := by kernel_rfl
theorem cells74 : Tryz.prog.cellsOf 74 = 3 := by kernel_rfl
theorem cells25 : Tryz.prog.cellsOf 25 = 3 := by kernel_rfl
theorem cells3 : Tryz.prog.cellsOf 3 = 1 := by kernel_rfl
theorem cells22 : Tryz.prog.cellsOf 22 = 1 := by kernel_rfl
theorem cells23 : Tryz.prog.cellsOf 23 = 1 := by kernel_rfl

def vRow (r : Row) : List Value := [.int .i64 r.1, .int .i64 r.2]
def vNd (r : Nd) : List Value := [.int .i64 r.1, .int .i64 r.2.1, .int .i64 r.2.2]

theorem rd_row (h : DataW.trod enc Tryz.prog w base spare held fuel 27 cs = some x) : ∃ r : Row, cs = vRow r ∧ okRow r := by
  obtain ⟨y0, y1, n, _, hl, h0, h1⟩ := trod_struct2 Tryz.underlying27 h
  rw [cells27] at hl
  simp only [cells3] at h0 h1
  match cs, hl with
  | [a, b], _ =>
    obtain ⟨n0, e0, w0⟩ := rd_int h0
    obtain ⟨n1, e1, w1⟩ := rd_int h1
    simp at e0 e1
    subst e0 e1
    exact ⟨(n0, n1), rfl, w0, w1⟩

theorem rd_nd (h : DataW.trod enc Tryz.prog w base spare held fuel 74 cs = some x) : ∃ r : Nd, cs = vNd r ∧ okNd64 r := by
  obtain ⟨y0, y1, y2, n, _, hl, h0, h1, h2⟩ := Go.Deep.trod_struct3 Tryz.underlying74 h
  rw [cells74] at hl
  simp only [cells3] at h0 h1 h2
  match cs, hl with
  | [a, b, c], _ =>
    obtain ⟨n0, e0, w0⟩ := rd_int h0
    obtain ⟨n1, e1, w1⟩ := rd_int h1
    obtain ⟨n2, e2, w2⟩ := rd_int h2
    simp at e0 e1 e2
    subst e0 e1 e2
    exact ⟨(n0, n1, n2), rfl, w0, w1, w2⟩

theorem rd_slice {t e k : Nat} {α : Type} [Inhabited α] {dp : Nat → Option Fn} (en : α → List D) (vals : α → List Value) (P : α → Prop) (ht : Tryz.prog.underlying t = some (.slice e)) (hk : Tryz.prog.cellsOf e = k)
    (hen : ∀ a, (en a).length = k) (hvl : ∀ a, (vals a).length = k)
    (helem : ∀ (n : Nat) (sp : Nat → Bool) (cs : List Value) (x : DataW H × List MemPlace), DataW.trod enc Tryz.prog w base sp held n e cs = some x → ∃ a, cs = vals a ∧ P a)
    (hrel : ∀ (a : α) (m : Nat) (v : Value) (d : D), (vals a)[m]? = some v → (en a)[m]? = some d → v.oneCell' = true ∧ Rel dp (there w) [] w v d)
    (h : DataW.trod enc Tryz.prog w base spare held fuel t cs = some x) (hsp : ∀ a l c, cs = [.slice (some a) l c] → a.spot = none) :
    ∃ nl l v, (nl = true → l = []) ∧ (∀ a ∈ l, P a) ∧ l.length ≤ maxLen ∧ cs = [v] ∧ v.oneCell' = true ∧ Rel dp (there w) [] w v (.sl k nl (l.map en) .ro) := by
  rcases Go.Deep.open_slice ht h with ⟨rfl, _⟩ | ⟨a, len, cap, m, n, D', Pl, rfl, hb, hl, hm, hmm, _, hx⟩
  · exact ⟨true, [], _, fun _ => rfl, fun _ h => by (cases h), Nat.zero_le _, rfl, rfl, .nil k .ro⟩
  · have hspot := hsp a len cap rfl
    have hlm : len ≤ m := by rw [hmm]; split <;> omega
    obtain ⟨f, hf⟩ := Go.Deep.choose_lt (α := α) (n := len) (p := fun i y => w.cells? base (a.add (i * Tryz.prog.cellsOf e)) (Tryz.prog.cellsOf e) = some (vals y) ∧ P y) (fun i hi => by
      obtain ⟨cs', h1, h2⟩ := hx i (by omega)
      obtain ⟨y, e1, e2⟩ := helem _ _ _ _ h2
      exact ⟨y, e1 ▸ h1, e2⟩)
    obtain ⟨blk, off, spot⟩ := a
    simp only at hspot
    subst hspot
    have hadd : ∀ i j, ((Addr.mk blk off none).add i).add j = ⟨blk, off + i + j, none⟩ := by
      intro i j
      unfold Addr.add
      by_cases hi : i = 0 <;> by_cases hj : j = 0 <;> simp [hi, hj, Nat.add_assoc]
    have hcell : ∀ i, i < len → ∀ j, j < k → w.cell? ⟨blk, off + i * k + j, none⟩ = (vals (f i))[j]? := by
      intro i hi j hj
      obtain ⟨h1, _⟩ := hf i hi
      rw [hk] at h1
      obtain ⟨_, _, h3⟩ := World.cells?_some h1
      have := h3 j hj
      rwa [hadd] at this
    refine ⟨false, (List.range len).map f, _, fun h => by (cases h), ?_, by simp; omega, rfl, rfl, ?_⟩
    · intro y hy
      obtain ⟨i, hi, rfl⟩ := List.mem_map.1 hy
      exact (hf i (List.mem_range.1 hi)).2
    · have hlen : ((List.range len).map f).map en = (List.range len).map fun i => en (f i) := by rw [List.map_map]; rfl
      rw [hlen]
      have hget : ∀ (j : Nat) (y : List D), ((List.range len).map fun i => en (f i))[j]? = some y → j < len ∧ y = en (f j) := by
        intro j y hj
        rw [List.getElem?_map] at hj
        by_cases hjl : j < len
        · rw [List.getElem?_range hjl] at hj
          simp at hj
          exact ⟨hjl, hj.symm⟩
        · rw [List.getElem?_eq_none (by simp; omega)] at hj
          cases hj
      have key := Rel.sl (dp := dp) (F := there w) (G := []) (w := w) k ((List.range len).map fun i => en (f i)) .ro blk off cap (fun j m => ((vals (f j))[m]?).getD .nilIface)
        (by intro y hy; obtain ⟨i, _, rfl⟩ := List.mem_map.1 hy; exact hen _) (by simpa using hl)
        (by
          intro j y m d hj hd
          obtain ⟨hjl, rfl⟩ := hget j y hj
          have hmk : m < k := by
            rcases Nat.lt_or_ge m k with q | q
            · exact q
            · rw [List.getElem?_eq_none (by rw [hen]; exact q)] at hd; cases hd
          obtain ⟨v, hv⟩ : ∃ v, (vals (f j))[m]? = some v := ⟨_, List.getElem?_eq_getElem (by rw [hvl]; exact hmk)⟩
          have hc := hcell j hjl m hmk
          rw [hv] at hc ⊢
          exact ⟨⟨v, hc⟩, hc, (hrel _ _ _ _ hv hd).1⟩)
        (by
          intro j y m d hj hd
          obtain ⟨hjl, rfl⟩ := hget j y hj
          have hmk : m < k := by
            rcases Nat.lt_or_ge m k with q | q
            · exact q
            · rw [List.getElem?_eq_none (by rw [hen]; exact q)] at hd; cases hd
          obtain ⟨v, hv⟩ : ∃ v, (vals (f j))[m]? = some v := ⟨_, List.getElem?_eq_getElem (by rw [hvl]; exact hmk)⟩
          simp only [hv, Option.getD_some]
          exact (hrel _ _ _ _ hv hd).2)
        trivial
      simpa using key

theorem rel_row {dp : Nat → Option Fn} (a : Row) (m : Nat) (v : Value) (d : D) (h1 : (vRow a)[m]? = some v) (h2 : (eRow a)[m]? = some d) : v.oneCell' = true ∧ Rel dp (there w) [] w v d := by
  match m with
  | 0 => simp [vRow] at h1; simp at h2; subst h1 h2; exact ⟨rfl, .i _ _⟩
  | 1 => simp [vRow] at h1; simp at h2; subst h1 h2; exact ⟨rfl, .i _ _⟩
  | m + 2 => simp [vRow] at h1

theorem rel_nd {dp : Nat → Option Fn} (a : Nd) (m : Nat) (v : Value) (d : D) (h1 : (vNd a)[m]? = some v) (h2 : (eNd a)[m]? = some d) : v.oneCell' = true ∧ Rel dp (there w) [] w v d := by
  match m with
  | 0 => simp [vNd] at h1; simp at h2; subst h1 h2; exact ⟨rfl, .i _ _⟩
  | 1 => simp [vNd] at h1; simp at h2; subst h1 h2; exact ⟨rfl, .i _ _⟩
  | 2 => simp [vNd] at h1; simp at h2; subst h1 h2; exact ⟨rfl, .i _ _⟩
  | m + 3 => simp [vNd] at h1

theorem rd_rows {dp : Nat → Option Fn} (h : DataW.trod enc Tryz.prog w base spare held fuel 22 cs = some x) (hsp : ∀ a l c, cs = [.slice (some a) l c] → a.spot = none) :
    ∃ nl l v, (nl = true → l = []) ∧ (∀ a ∈ l, okRow a) ∧ l.length ≤ maxLen ∧ cs = [v] ∧ v.oneCell' = true ∧ Rel dp (there w) [] w v (eRows nl l) :=
  rd_slice eRow vRow okRow Tryz.underlying22 cells27 (fun _ => rfl) (fun _ => rfl) (fun _ _ _ _ h => rd_row h) (fun a m v d => rel_row a m v d) h hsp

theorem rd_nds {dp : Nat → Option Fn} (h : DataW.trod enc Tryz.prog w base spare held fuel 23 cs = some x) (hsp : ∀ a l c, cs = [.slice (some a) l c] → a.spot = none) :
    ∃ nl l v, (nl = true → l = []) ∧ (∀ a ∈ l, okNd64 a) ∧ l.length ≤ maxLen ∧ cs = [v] ∧ v.oneCell' = true ∧ Rel dp (there w) [] w v (eNds nl l) :=
  rd_slice eNd vNd okNd64 Tryz.underlying23 cells74 (fun _ => rfl) (fun _ => rfl) (fun _ _ _ _ h => rd_nd h) (fun a m v d => rel_nd a m v d) h hsp

theorem spot_of {r : Reach} {b0 : Nat} {t e : TypeId} {v : Value} (ht : Tryz.prog.underlying t = some (.slice e)) (h : Cell.okWide Tryz.prog w r b0 t v) : ∀ a l c, v = .slice (some a) l c → a.spot = none := by
  rintro a l c rfl
  simp only [Cell.okWide, ht, Cell.ok] at h
  exact h.2.2.2.1

/-- A diagram that is handed over. -/
theorem rd_bdd {dp : Nat → Option Fn} {r : Reach} {b0 : Nat} {v : Value} {d : DataW H} {ps : List MemPlace} (hv : Value.okWide Tryz.prog w r b0 25 v) (h : DataW.Trod enc Tryz.prog w base spare held 25 v d ps) :
    ∃ nl nl' ord ns root, (nl = true → ord = []) ∧ (nl' = true → ns = []) ∧ (∀ a ∈ ord, okRow a) ∧ (∀ a ∈ ns, okNd64 a) ∧ in64 root ∧ ord.length ≤ maxLen ∧ ns.length ≤ maxLen ∧ Rel dp (there w) [] w v (eB nl nl' ord ns root) := by
  obtain ⟨fuel, h⟩ := h
  simp only [Value.okWide, Tryz.underlying25] at hv
  obtain ⟨cs, rfl, hsz, ts, hts, _, hcell⟩ := hv
  have ht : ts = [22, 23, 3] := Option.some.inj (hts.symm.trans (show Tryz.prog.cellTypes Tryz.prog.depth 25 = some [22, 23, 3] by kernel_rfl))
  subst ht
  obtain ⟨y0, y1, y2, n, _, hl, h0, h1, h2⟩ := Go.Deep.trod_struct3 Tryz.underlying25 h
  simp only [cells3, cells22, cells23] at h0 h1 h2
  rw [cells25] at hl
  have hcs : (Value.agg cs).cells.toList = cs.toList := rfl
  rw [hcs] at h0 h1 h2 hl
  obtain ⟨l⟩ := cs
  match l, hl with
  | [a, b, c], _ =>
    have hca : ∀ x l c, [a] = [Value.slice (some x) l c] → x.spot = none := by
      obtain ⟨u, hu, hk⟩ := hcell 0 a rfl
      simp at hu; subst hu
      intro x l c e
      injection e with e
      exact spot_of Tryz.underlying22 hk x l c e
    have hcb : ∀ x l c, [b] = [Value.slice (some x) l c] → x.spot = none := by
      obtain ⟨u, hu, hk⟩ := hcell 1 b rfl
      simp at hu; subst hu
      intro x l c e
      injection e with e
      exact spot_of Tryz.underlying23 hk x l c e
    obtain ⟨nl, ord, va, g1, g2, g3, e1, _, r1⟩ := rd_rows (dp := dp) h0 hca
    obtain ⟨nl', ns, vb, k1, k2, k3, e2, _, r2⟩ := rd_nds (dp := dp) h1 hcb
    obtain ⟨root, e3, i3⟩ := rd_int h2
    simp at e1 e2 e3
    subst e1 e2 e3
    refine ⟨nl, nl', ord, ns, root, g1, k1, g2, k2, i3, g3, k3, .agg _ _ rfl ?_⟩
    intro j v d hv hd
    match j with
    | 0 => simp at hv hd; subst hv hd; exact r1
    | 1 => simp at hv hd; subst hv hd; exact r2
    | 2 => simp at hv hd; subst hv hd; exact .i _ _
    | j + 3 => simp at hv

theorem rd_rowsArg {dp : Nat → Option Fn} {r : Reach} {b0 : Nat} {v : Value} {d : DataW H} {ps : List MemPlace} (hv : Value.okWide Tryz.prog w r b0 22 v) (h : DataW.Trod enc Tryz.prog w base spare held 22 v d ps) :
    ∃ nl ord, (nl = true → ord = []) ∧ (∀ a ∈ ord, okRow a) ∧ ord.length ≤ maxLen ∧ Rel dp (there w) [] w v (eRows nl ord) := by
  obtain ⟨fuel, h⟩ := h
  simp only [Value.okWide, Tryz.underlying22] at hv
  have hs := spot_of Tryz.underlying22 hv
  have hc : v.cells.toList = [v] := by
    cases v <;> first | rfl | (simp only [Cell.okWide, Tryz.underlying22, Cell.ok] at hv)
  rw [hc] at h
  obtain ⟨nl, ord, va, g1, g2, g3, e1, _, r1⟩ := rd_rows (dp := dp) h (fun a l c e => hs a l c (by injection e))
  injection e1 with e1
  subst e1
  exact ⟨nl, ord, g1, g2, g3, r1⟩

theorem rd_rowArg {dp : Nat → Option Fn} {r : Reach} {b0 : Nat} {v : Value} {d : DataW H} {ps : List MemPlace} (hv : Value.okWide Tryz.prog w r b0 27 v) (h : DataW.Trod enc Tryz.prog w base spare held 27 v d ps) :
    ∃ a : Row, okRow a ∧ Rel dp (there w) [] w v (.agg (eRow a)) := by
  obtain ⟨fuel, h⟩ := h
  simp only [Value.okWide, Tryz.underlying27] at hv
  obtain ⟨cs, rfl, _, _⟩ := hv
  obtain ⟨a, e, ho⟩ := rd_row h
  obtain ⟨l⟩ := cs
  simp [Value.cells] at e
  subst e
  exact ⟨a, ho, .agg _ _ rfl fun j v d hv hd => (rel_row a j v d (by simpa using hv) hd).2⟩

theorem rd_boolArg {dp : Nat → Option Fn} {r : Reach} {b0 : Nat} {v : Value} {d : DataW H} {ps : List MemPlace} (hv : Value.okWide Tryz.prog w r b0 4 v) (h : DataW.Trod enc Tryz.prog w base spare held 4 v d ps) :
    ∃ a : Bool, Rel dp (there w) [] w v (.b a) := by
  obtain ⟨a, rfl, _, _⟩ := open_bool Tryz.underlying4 hv h
  exact ⟨a, .b a⟩

end

end Go.Proofs.YtjlmeikcfdanmaaGreatDoor.DE.V

namespace Go.Proofs.YtjlmeikcfdanmaaGreatDoor.DE
open Go

/-! lineage/rowset.Valid -/
def s92 (cf : CallF) (a0 : D) (S : Store) (Post : D → Store → Prop) : Prop :=
  bxx 2 true a0 S fun x1 S2 =>
  OX (faD 0 x1) fun x3 =>
  OX (ldD S2 1 false x3) fun x4 =>
  OX (binD .geq .num x4 (.i .i64 1)) fun x5 =>
  OX (gsel x5 true (faD 1 x1)) fun x6 =>
  OX (gsel x5 true (ldD S2 1 false x6)) fun x7 =>
  OX (gsel x5 true (binD .geq .num x7 (.i .i64 1))) fun x8 =>
  OX (pickD x5 x8 (.b false)) fun x9 =>
  Post x9 S2
theorem e92 (cf : CallF) (a0 : D) (S : Store) (Post : D → Store → Prop) : wp cf c92 (frame0 d92 [a0]) S (FinK d92.res Post) = s92 cf a0 S Post := wpS_of (by kernel_rfl)
theorem i92 (a0 : D) (r : D) (ha : noRefL (stripL [a0]) = true) (hr : noRef r = true) (h : s92 (call dp) (strip a0) [] fun d _ => stripT d = r) : isoCall (call dp) 92 [a0] = some r := iso_s (f := d92) rfl ⟨rfl, by decide⟩ ha hr (by rw [← e92] at h; exact h)
/-! lineage/lineageref02.Valid -/
def s51 (cf : CallF) (a0 : D) (S : Store) (Post : D → Store → Prop) : Prop :=
  bxx 2 true a0 S fun x1 S2 =>
  OX (faD 0 x1) fun x3 =>
  OX (ldD S2 1 false x3) fun x4 =>
  OX (binD .geq .num x4 (.i .i64 1)) fun x5 =>
  OX (gsel x5 true (faD 1 x1)) fun x6 =>
  OX (gsel x5 true (ldD S2 1 false x6)) fun x7 =>
  OX (gsel x5 true (binD .geq .num x7 (.i .i64 1))) fun x8 =>
  OX (pickD x5 x8 (.b false)) fun x9 =>
  Post x9 S2
theorem e51 (cf : CallF) (a0 : D) (S : Store) (Post : D → Store → Prop) : wp cf c51 (frame0 d51 [a0]) S (FinK d51.res Post) = s51 cf a0 S Post := wpS_of (by kernel_rfl)
theorem i51 (a0 : D) (r : D) (ha : noRefL (stripL [a0]) = true) (hr : noRef r = true) (h : s51 (call dp) (strip a0) [] fun d _ => stripT d = r) : isoCall (call dp) 51 [a0] = some r := iso_s (f := d51) rfl ⟨rfl, by decide⟩ ha hr (by rw [← e51] at h; exact h)
/-! lineage/bdd.validOrder -/
def s48_r0 (cf : CallF) (a0 : D) (a2 : D) (a3 : D) (a7 : D) (a8 : D) (a9 : D) (a10 : D) (S : Store) (Q : Ex → List D → Store → Prop) : Prop :=
  OX (lenD false a0) fun x1 =>
  OX (binD .leq .num x1 (.i .i64 4096)) fun x2 =>
  Q .ret (mkf 27 [(0, .top), (2, x2), (3, .top), (7, .top), (8, .top), (9, .top), (10, .top)]) S
theorem e48_r0 (cf : CallF) (a0 : D) (a2 : D) (a3 : D) (a7 : D) (a8 : D) (a9 : D) (a10 : D) (S : Store) (Q : Ex → List D → Store → Prop) : wp cf c48_r0 (mkf 27 [(0, a0), (2, a2), (3, a3), (7, a7), (8, a8), (9, a9), (10, a10)]) S Q = s48_r0 cf a0 a2 a3 a7 a8 a9 a10 S Q := wpS_of (by kernel_rfl)
def s48_0 (cf : CallF) (a0 : D) (a2 : D) (a3 : D) (a7 : D) (a8 : D) (a9 : D) (a10 : D) (S : Store) (Q : Ex → List D → Store → Prop) : Prop :=
  OX (binD .lss .num a9 a8) fun x3 =>
  WB x3
  (OX (iaD 2 a7 a9) fun x4 =>
  OX (ldD S 2 true x4) fun x5 =>
  al [.i .i64 0, .i .i64 0] S fun x6 S7 =>
  OX (stD S7 2 true x6 x5) fun S9 =>
  OX (ldD S9 2 true x6) fun x10 =>
  OX (isoCall cf 92 [x10]) fun x11 =>
  OX (unD .not x11) fun x12 =>
  OX (gsel x12 false (some a3)) fun x13 =>
  OX (gsel x12 false (ldD S9 2 true x6)) fun x14 =>
  OX (gsel x12 false (lkD' (.agg [.i, .i]) false (.b false) S9 x13 x14)) fun x15 =>
  OX (pickD x12 (.b true) x15) fun x16 =>
  WB x16
  (Q .ret (mkf 27 [(0, .top), (2, (.b false)), (3, .top), (7, .top), (8, .top), (9, .top), (10, .top)]) S9)
  (OX (ldD S9 2 true x6) fun x17 =>
  OX (muD' (.agg [.i, .i]) S9 a3 x17 (.b true)) fun S19 =>
  OX (binD .add .num a9 (.i .i64 1)) fun x20 =>
  Q .normal (mkf 27 [(0, a0), (2, a2), (3, a3), (7, a7), (8, a8), (9, x20), (10, .top)]) S19))
  (Q (.exit 0) (mkf 27 [(0, a0), (2, a2), (3, a3), (7, a7), (8, a8), (9, a9), (10, x3)]) S)
theorem e48_0 (cf : CallF) (a0 : D) (a2 : D) (a3 : D) (a7 : D) (a8 : D) (a9 : D) (a10 : D) (S : Store) (Q : Ex → List D → Store → Prop) : wp cf c48_0 (fkill (mkf 27 [(0, a0), (2, a2), (3, a3), (7, a7), (8, a8), (9, a9), (10, a10)]) []) S Q = s48_0 cf a0 a2 a3 a7 a8 a9 a10 S Q := wpS_of (by kernel_rfl)
def s48 (cf : CallF) (a0 : D) (S : Store) (Post : D → Store → Prop) : Prop :=
  mm S fun x21 S22 =>
  OX (lenD false a0) fun x23 =>
  W cf (.loop [] c48_0) (mkf 27 [(0, a0), (2, .top), (3, x21), (7, a0), (8, x23), (9, (.i .i64 0)), (10, .top)]) S22 (Qblk 0 (QS cf c48_r0 (FinK [.t 2] Post)))
theorem e48 (cf : CallF) (a0 : D) (S : Store) (Post : D → Store → Prop) : wp cf c48 (frame0 d48 [a0]) S (FinK d48.res Post) = s48 cf a0 S Post := wpS_of (by kernel_rfl)
theorem i48 (a0 : D) (r : D) (ha : noRefL (stripL [a0]) = true) (hr : noRef r = true) (h : s48 (call dp) (strip a0) [] fun d _ => stripT d = r) : isoCall (call dp) 48 [a0] = some r := iso_s (f := d48) rfl ⟨rfl, by decide⟩ ha hr (by rw [← e48] at h; exact h)
/-! lineage/bdd.shaped -/
def s71_r0 (cf : CallF) (a1 : D) (a2 : D) (a3 : D) (a9 : D) (a10 : D) (a11 : D) (a12 : D) (S : Store) (Q : Ex → List D → Store → Prop) : Prop :=
  OX (faD 2 a1) fun x1 =>
  OX (ldD S 1 false x1) fun x2 =>
  OX (binD .geq .num x2 (.i .i64 0)) fun x3 =>
  OX (gsel x3 true (faD 2 a1)) fun x4 =>
  OX (gsel x3 true (ldD S 1 false x4)) fun x5 =>
  OX (gsel x3 true (faD 1 a1)) fun x6 =>
  OX (gsel x3 true (ldD S 1 false x6)) fun x7 =>
  OX (gsel x3 true (lenD false x7)) fun x8 =>
  OX (gsel x3 true (binD .add .num x8 (.i .i64 2))) fun x9 =>
  OX (gsel x3 true (binD .lss .num x5 x9)) fun x10 =>
  OX (pickD x3 x10 (.b false)) fun x11 =>
  Q .ret (mkf 98 [(1, .top), (2, x11), (3, .top), (9, .top), (10, .top), (11, .top), (12, .top)]) S
theorem e71_r0 (cf : CallF) (a1 : D) (a2 : D) (a3 : D) (a9 : D) (a10 : D) (a11 : D) (a12 : D) (S : Store) (Q : Ex → List D → Store → Prop) : wp cf c71_r0 (mkf 98 [(1, a1), (2, a2), (3, a3), (9, a9), (10, a10), (11, a11), (12, a12)]) S Q = s71_r0 cf a1 a2 a3 a9 a10 a11 a12 S Q := wpS_of (by kernel_rfl)
def s71_0 (cf : CallF) (a1 : D) (a2 : D) (a3 : D) (a9 : D) (a10 : D) (a11 : D) (a12 : D) (S : Store) (Q : Ex → List D → Store → Prop) : Prop :=
  OX (binD .lss .num a11 a10) fun x12 =>
  WB x12
  (OX (iaD 3 a9 a11) fun x13 =>
  OX (ldD S 3 true x13) fun x14 =>
  al [.i .i64 0, .i .i64 0, .i .i64 0] S fun x15 S16 =>
  OX (stD S16 3 true x15 x14) fun S18 =>
  OX (faD 1 x15) fun x19 =>
  OX (ldD S18 1 false x19) fun x20 =>
  OX (binD .geq .num x20 (.i .i64 0)) fun x21 =>
  OX (gsel x21 true (faD 2 x15)) fun x22 =>
  OX (gsel x21 true (ldD S18 1 false x22)) fun x23 =>
  OX (gsel x21 true (binD .geq .num x23 (.i .i64 0))) fun x24 =>
  OX (pickD x21 x24 (.b false)) fun x25 =>
  OX (gsel x25 true (faD 1 x15)) fun x26 =>
  OX (gsel x25 true (ldD S18 1 false x26)) fun x27 =>
  OX (gsel x25 true (some a11)) fun x28 =>
  OX (gsel x25 true (binD .add .num x28 (.i .i64 2))) fun x29 =>
  OX (gsel x25 true (binD .lss .num x27 x29)) fun x30 =>
  OX (pickD x25 x30 (.b false)) fun x31 =>
  OX (gsel x31 true (faD 2 x15)) fun x32 =>
  OX (gsel x31 true (ldD S18 1 false x32)) fun x33 =>
  OX (gsel x31 true (some a11)) fun x34 =>
  OX (gsel x31 true (binD .add .num x34 (.i .i64 2))) fun x35 =>
  OX (gsel x31 true (binD .lss .num x33 x35)) fun x36 =>
  OX (pickD x31 x36 (.b false)) fun x37 =>
  OX (faD 0 x15) fun x38 =>
  OX (ldD S18 1 false x38) fun x39 =>
  OX (binD .lss .num x39 (.i .i64 0)) fun x40 =>
  OX (gsel x40 false (faD 0 x15)) fun x41 =>
  OX (gsel x40 false (ldD S18 1 false x41)) fun x42 =>
  OX (gsel x40 false (faD 0 a1)) fun x43 =>
  OX (gsel x40 false (ldD S18 1 false x43)) fun x44 =>
  OX (gsel x40 false (lenD false x44)) fun x45 =>
  OX (gsel x40 false (binD .geq .num x42 x45)) fun x46 =>
  OX (pickD x40 (.b true) x46) fun x47 =>
  OX (gsel x47 false (some x37)) fun x48 =>
  OX (gsel x47 false (unD .not x48)) fun x49 =>
  OX (pickD x47 (.b true) x49) fun x50 =>
  OX (gsel x50 false (faD 1 x15)) fun x51 =>
  OX (gsel x50 false (ldD S18 1 false x51)) fun x52 =>
  OX (gsel x50 false (faD 2 x15)) fun x53 =>
  OX (gsel x50 false (ldD S18 1 false x53)) fun x54 =>
  OX (gsel x50 false (binD .eql .num x52 x54)) fun x55 =>
  OX (pickD x50 (.b true) x55) fun x56 =>
  OX (gsel x56 false (some a3)) fun x57 =>
  OX (gsel x56 false (ldD S18 3 true x15)) fun x58 =>
  OX (gsel x56 false (lkD' (.agg [.i, .i, .i]) false (.b false) S18 x57 x58)) fun x59 =>
  OX (pickD x56 (.b true) x59) fun x60 =>
  OX (gsel x60 false (ldD S18 3 true a1)) fun x61 =>
  OX (gsel x60 false (faD 1 x15)) fun x62 =>
  OX (gsel x60 false (ldD S18 1 false x62)) fun x63 =>
  OX (gsel x60 false (isoCall cf 77 [x61, x63])) fun x64 =>
  OX (gsel x60 false (faD 0 x15)) fun x65 =>
  OX (gsel x60 false (ldD S18 1 false x65)) fun x66 =>
  OX (gsel x60 false (binD .leq .num x64 x66)) fun x67 =>
  OX (pickD x60 (.b true) x67) fun x68 =>
  OX (gsel x68 false (ldD S18 3 true a1)) fun x69 =>
  OX (gsel x68 false (faD 2 x15)) fun x70 =>
  OX (gsel x68 false (ldD S18 1 false x70)) fun x71 =>
  OX (gsel x68 false (isoCall cf 77 [x69, x71])) fun x72 =>
  OX (gsel x68 false (faD 0 x15)) fun x73 =>
  OX (gsel x68 false (ldD S18 1 false x73)) fun x74 =>
  OX (gsel x68 false (binD .leq .num x72 x74)) fun x75 =>
  OX (pickD x68 (.b true) x75) fun x76 =>
  WB x76
  (Q .ret (mkf 98 [(1, .top), (2, (.b false)), (3, .top), (9, .top), (10, .top), (11, .top), (12, .top)]) S18)
  (OX (ldD S18 3 true x15) fun x77 =>
  OX (muD' (.agg [.i, .i, .i]) S18 a3 x77 (.b true)) fun S79 =>
  OX (binD .add .num a11 (.i .i64 1)) fun x80 =>
  Q .normal (mkf 98 [(1, a1), (2, a2), (3, a3), (9, a9), (10, a10), (11, x80), (12, .top)]) S79))
  (Q (.exit 0) (mkf 98 [(1, a1), (2, a2), (3, a3), (9, a9), (10, a10), (11, a11), (12, x12)]) S)
theorem e71_0 (cf : CallF) (a1 : D) (a2 : D) (a3 : D) (a9 : D) (a10 : D) (a11 : D) (a12 : D) (S : Store) (Q : Ex → List D → Store → Prop) : wp cf c71_0 (fkill (mkf 98 [(1, a1), (2, a2), (3, a3), (9, a9), (10, a10), (11, a11), (12, a12)]) []) S Q = s71_0 cf a1 a2 a3 a9 a10 a11 a12 S Q := wpS_of (by kernel_rfl)
def s71 (cf : CallF) (a0 : D) (S : Store) (Post : D → Store → Prop) : Prop :=
  bxx 3 true a0 S fun x81 S82 =>
  mm S82 fun x83 S84 =>
  OX (faD 1 x81) fun x85 =>
  OX (ldD S84 1 false x85) fun x86 =>
  OX (lenD false x86) fun x87 =>
  W cf (.loop [] c71_0) (mkf 98 [(1, x81), (2, .top), (3, x83), (9, x86), (10, x87), (11, (.i .i64 0)), (12, .top)]) S84 (Qblk 0 (QS cf c71_r0 (FinK [.t 2] Post)))
theorem e71 (cf : CallF) (a0 : D) (S : Store) (Post : D → Store → Prop) : wp cf c71 (frame0 d71 [a0]) S (FinK d71.res Post) = s71 cf a0 S Post := wpS_of (by kernel_rfl)
theorem i71 (a0 : D) (r : D) (ha : noRefL (stripL [a0]) = true) (hr : noRef r = true) (h : s71 (call dp) (strip a0) [] fun d _ => stripT d = r) : isoCall (call dp) 71 [a0] = some r := iso_s (f := d71) rfl ⟨rfl, by decide⟩ ha hr (by rw [← e71] at h; exact h)
/-! lineage/bdd.level -/
def s77 (cf : CallF) (a0 : D) (a1 : D) (S : Store) (Post : D → Store → Prop) : Prop :=
  bxx 3 true a0 S fun x1 S2 =>
  OX (binD .lss .num a1 (.i .i64 2)) fun x3 =>
  WB x3
  (OX (faD 0 x1) fun x4 =>
  OX (ldD S2 1 false x4) fun x5 =>
  OX (lenD false x5) fun x6 =>
  Post x6 S2)
  (OX (faD 1 x1) fun x7 =>
  OX (ldD S2 1 false x7) fun x8 =>
  OX (binD .sub .num a1 (.i .i64 2)) fun x9 =>
  OX (iaD 3 x8 x9) fun x10 =>
  OX (faD 0 x10) fun x11 =>
  OX (ldD S2 1 false x11) fun x12 =>
  Post x12 S2)
theorem e77 (cf : CallF) (a0 : D) (a1 : D) (S : Store) (Post : D → Store → Prop) : wp cf c77 (frame0 d77 [a0, a1]) S (FinK d77.res Post) = s77 cf a0 a1 S Post := wpS_of (by kernel_rfl)
theorem i77 (a0 : D) (a1 : D) (r : D) (ha : noRefL (stripL [a0, a1]) = true) (hr : noRef r = true) (h : s77 (call dp) (strip a0) (strip a1) [] fun d _ => stripT d = r) : isoCall (call dp) 77 [a0, a1] = some r := iso_s (f := d77) rfl ⟨rfl, by decide⟩ ha hr (by rw [← e77] at h; exact h)
/-! lineage/bdd.numbered -/
def s72 (cf : CallF) (a0 : D) (a1 : D) (a2 : D) (S : Store) (Post : D → Store → Prop) : Prop :=
  bxx 1 false a1 S fun x1 S2 =>
  al [.sl 2 true [] .ro, .sl 3 true [] .ro, .i .i64 0] S2 fun x3 S4 =>
  OX (isoCall cf 49 [a0]) fun x5 =>
  OX (bldV [.sl 2 true [] .ro, .sl 3 true [] .ro, .i .i64 0] [(0, 1, false, x5)]) fun x6 =>
  al [.sl 2 true [] .ro, .sl 3 true [] .ro, .i .i64 0] S4 fun x7 S8 =>
  OX (stD S8 3 true x7 (.agg x6)) fun S10 =>
  mm S10 fun x11 S12 =>
  OX (muD' (.one .i) S12 x11 (.i .i64 0) (.i .i64 0)) fun S14 =>
  OX (muD' (.one .i) S14 x11 (.i .i64 1) (.i .i64 1)) fun S16 =>
  al [.nilm] S16 fun x17 S18 =>
  OX (stD S18 1 false x17 x11) fun S20 =>
  al [.top] S20 fun x21 S22 =>
  OX (stD S22 1 false x21 (.fn 115 [x17, x1, x21, x7])) fun S24 =>
  OX (ldD S24 1 false x21) fun x25 =>
  OX (fnD x25) fun q27 => OX (cf q27.1 ([a2] ++ q27.2) S24) fun p28 =>
  OX (faD 2 x7) fun x29 =>
  OX (stD p28.2 1 false x29 p28.1) fun S31 =>
  OX (ldD S31 3 true x7) fun x32 =>
  OX (stD S31 3 true x3 x32) fun S34 =>
  OX (ldc S34 3 true x3) fun x35 => Post x35 S34
theorem e72 (cf : CallF) (a0 : D) (a1 : D) (a2 : D) (S : Store) (Post : D → Store → Prop) : wp cf c72 (frame0 d72 [a0, a1, a2]) S (FinK d72.res Post) = s72 cf a0 a1 a2 S Post := wpS_of (by kernel_rfl)
theorem i72 (a0 : D) (a1 : D) (a2 : D) (r : D) (ha : noRefL (stripL [a0, a1, a2]) = true) (hr : noRef r = true) (h : s72 (call dp) (strip a0) (strip a1) (strip a2) [] fun d _ => stripT d = r) : isoCall (call dp) 72 [a0, a1, a2] = some r := iso_s (f := d72) rfl ⟨rfl, by decide⟩ ha hr (by rw [← e72] at h; exact h)
/-! lineage/bdd.numbered$1 -/
def s115 (cf : CallF) (a0 : D) (a1 : D) (a2 : D) (a3 : D) (a4 : D) (S : Store) (Post : D → Store → Prop) : Prop :=
  OX (ldD S 1 false a1) fun x1 =>
  OX (lkD' (.one .i) true (.i .i64 0) S x1 a0) fun x2 =>
  OX (extD x2 0) fun x3 =>
  OX (extD x2 1) fun x4 =>
  WB x4
  (Post x3 S)
  (OX (ldD S 1 false a2) fun x5 =>
  OX (binD .sub .num a0 (.i .i64 2)) fun x6 =>
  OX (iaD 3 x5 x6) fun x7 =>
  OX (ldD S 3 true x7) fun x8 =>
  al [.i .i64 0, .i .i64 0, .i .i64 0] S fun x9 S10 =>
  OX (stD S10 3 true x9 x8) fun S12 =>
  OX (ldD S12 1 false a3) fun x13 =>
  OX (faD 1 x9) fun x14 =>
  OX (ldD S12 1 false x14) fun x15 =>
  OX (ldD S12 1 false a3) fun x16 =>
  OX (faD 2 x9) fun x17 =>
  OX (ldD S12 1 false x17) fun x18 =>
  OX (fnD x13) fun q20 => OX (cf q20.1 ([x15] ++ q20.2) S12) fun p21 =>
  OX (ldD p21.2 1 false a3) fun x22 => deq x22 x16 = true ∧
  (OX (ldD p21.2 1 false x17) fun x23 => deq x23 x18 = true ∧
  (OX (faD 1 x9) fun x24 =>
  OX (fnD x16) fun q26 => OX (cf q26.1 ([x18] ++ q26.2) p21.2) fun p27 =>
  OX (stD p27.2 1 false x24 p21.1) fun S29 =>
  OX (faD 2 x9) fun x30 =>
  OX (stD S29 1 false x30 p27.1) fun S32 =>
  OX (faD 1 a4) fun x33 =>
  OX (ldD S32 1 false x33) fun x34 =>
  OX (ldD S32 3 true x9) fun x35 =>
  OX (cellsV 3 true [x35]) fun x36 =>
  OX (appD 3 false x34 (.sl 3 false x36 .ro) S32) fun p38 =>
  OX (faD 1 a4) fun x39 =>
  OX (stD p38.2 1 false x39 p38.1) fun S41 =>
  OX (ldD S41 1 false a1) fun x42 =>
  OX (faD 1 a4) fun x43 =>
  OX (ldD S41 1 false x43) fun x44 =>
  OX (lenD false x44) fun x45 =>
  OX (binD .sub .num x45 (.i .i64 1)) fun x46 =>
  OX (binD .add .num x46 (.i .i64 2)) fun x47 =>
  OX (muD' (.one .i) S41 x42 a0 x47) fun S49 =>
  OX (ldD S49 1 false a1) fun x50 =>
  OX (lkD' (.one .i) false (.i .i64 0) S49 x50 a0) fun x51 =>
  Post x51 S49)))
theorem e115 (cf : CallF) (a0 : D) (a1 : D) (a2 : D) (a3 : D) (a4 : D) (S : Store) (Post : D → Store → Prop) : wp cf c115 (frame0 d115 [a0, a1, a2, a3, a4]) S (FinK d115.res Post) = s115 cf a0 a1 a2 a3 a4 S Post := wpS_of (by kernel_rfl)
theorem f115 (a0 : D) (a1 : D) (a2 : D) (a3 : D) (a4 : D) (S : Store) (Post : D → Store → Prop) (h : s115 (call dp) a0 a1 a2 a3 a4 S Post) : ∃ r S', call dp 115 [a0, a1, a2, a3, a4] S = some (r, S') ∧ Post r S' := call_s (f := d115) rfl ⟨rfl, by decide⟩ (by rw [← e115] at h; exact h)

/-! slices.Clone[[]lineage/api.RowID,lineage/api.RowID] -/
def s49 (cf : CallF) (a0 : D) (S : Store) (Post : D → Store → Prop) : Prop :=
  OX (binD .eql .sl a0 (.sl 2 true [] .ro)) fun x1 =>
  WB x1
  (Post (.sl 2 true [] .ro) S)
  (OX (cellsV 2 true []) fun x2 =>
  OX (appD 2 false (bslO 2 x2 S).1 a0 (bslO 2 x2 S).2) fun p4 =>
  Post p4.1 p4.2)
theorem e49 (cf : CallF) (a0 : D) (S : Store) (Post : D → Store → Prop) : wp cf c49 (frame0 d49 [a0]) S (FinK d49.res Post) = s49 cf a0 S Post := wpS_of (by kernel_rfl)
theorem i49 (a0 : D) (r : D) (ha : noRefL (stripL [a0]) = true) (hr : noRef r = true) (h : s49 (call dp) (strip a0) [] fun d _ => stripT d = r) : isoCall (call dp) 49 [a0] = some r := iso_s (f := d49) rfl ⟨rfl, by decide⟩ ha hr (by rw [← e49] at h; exact h)
/-! slices.Equal[[]lineage/api.BDDNode,lineage/api.BDDNode] -/
def s73_r0 (cf : CallF) (a0 : D) (a1 : D) (a4 : D) (a12 : D) (a13 : D) (a14 : D) (S : Store) (Q : Ex → List D → Store → Prop) : Prop :=
  Q .ret (mkf 26 [(0, .top), (1, .top), (4, (.b true)), (12, .top), (13, .top), (14, .top)]) S
theorem e73_r0 (cf : CallF) (a0 : D) (a1 : D) (a4 : D) (a12 : D) (a13 : D) (a14 : D) (S : Store) (Q : Ex → List D → Store → Prop) : wp cf c73_r0 (mkf 26 [(0, a0), (1, a1), (4, a4), (12, a12), (13, a13), (14, a14)]) S Q = s73_r0 cf a0 a1 a4 a12 a13 a14 S Q := wpS_of (by kernel_rfl)
def s73_0 (cf : CallF) (a0 : D) (a1 : D) (a4 : D) (a12 : D) (a13 : D) (a14 : D) (S : Store) (Q : Ex → List D → Store → Prop) : Prop :=
  OX (binD .lss .num a13 a12) fun x1 =>
  WB x1
  (OX (iaD 3 a0 a13) fun x2 =>
  OX (ldD S 3 true x2) fun x3 =>
  OX (iaD 3 a1 a13) fun x4 =>
  OX (ldD S 3 true x4) fun x5 =>
  OX (binD .neq (.agg [.i, .i, .i]) x3 x5) fun x6 =>
  WB x6
  (Q .ret (mkf 26 [(0, .top), (1, .top), (4, (.b false)), (12, .top), (13, .top), (14, .top)]) S)
  (OX (binD .add .num a13 (.i .i64 1)) fun x7 =>
  Q .normal (mkf 26 [(0, a0), (1, a1), (4, a4), (12, a12), (13, x7), (14, .top)]) S))
  (Q (.exit 0) (mkf 26 [(0, a0), (1, a1), (4, a4), (12, a12), (13, a13), (14, x1)]) S)
theorem e73_0 (cf : CallF) (a0 : D) (a1 : D) (a4 : D) (a12 : D) (a13 : D) (a14 : D) (S : Store) (Q : Ex → List D → Store → Prop) : wp cf c73_0 (fkill (mkf 26 [(0, a0), (1, a1), (4, a4), (12, a12), (13, a13), (14, a14)]) []) S Q = s73_0 cf a0 a1 a4 a12 a13 a14 S Q := wpS_of (by kernel_rfl)
def s73 (cf : CallF) (a0 : D) (a1 : D) (S : Store) (Post : D → Store → Prop) : Prop :=
  OX (lenD false a0) fun x8 =>
  OX (lenD false a1) fun x9 =>
  OX (binD .neq .num x8 x9) fun x10 =>
  WB x10
  (Post (.b false) S)
  (OX (lenD false a0) fun x11 =>
  W cf (.loop [] c73_0) (mkf 26 [(0, a0), (1, a1), (4, .top), (12, x11), (13, (.i .i64 0)), (14, .top)]) S (Qblk 0 (QS cf c73_r0 (FinK [.t 4] Post))))
theorem e73 (cf : CallF) (a0 : D) (a1 : D) (S : Store) (Post : D → Store → Prop) : wp cf c73 (frame0 d73 [a0, a1]) S (FinK d73.res Post) = s73 cf a0 a1 S Post := wpS_of (by kernel_rfl)
theorem i73 (a0 : D) (a1 : D) (r : D) (ha : noRefL (stripL [a0, a1]) = true) (hr : noRef r = true) (h : s73 (call dp) (strip a0) (strip a1) [] fun d _ => stripT d = r) : isoCall (call dp) 73 [a0, a1] = some r := iso_s (f := d73) rfl ⟨rfl, by decide⟩ ha hr (by rw [← e73] at h; exact h)
/-! slices.Equal[[]lineage/api.RowID,lineage/api.RowID] -/
/-! lineage/bdd.Equal -/
/-! lineage/bdd.Valid -/
def s33 (cf : CallF) (a0 : D) (S : Store) (Post : D → Store → Prop) : Prop :=
  bxx 3 true a0 S fun x1 S2 =>
  OX (faD 0 x1) fun x3 =>
  OX (ldD S2 1 false x3) fun x4 =>
  OX (isoCall cf 48 [x4]) fun x5 =>
  OX (unD .not x5) fun x6 =>
  OX (gsel x6 false (faD 1 x1)) fun x7 =>
  OX (gsel x6 false (ldD S2 1 false x7)) fun x8 =>
  OX (gsel x6 false (lenD false x8)) fun x9 =>
  OX (gsel x6 false (binD .gtr .num x9 (.i .i64 4096))) fun x10 =>
  OX (pickD x6 (.b true) x10) fun x11 =>
  OX (gsel x11 false (ldD S2 3 true x1)) fun x12 =>
  OX (gsel x11 false (isoCall cf 71 [x12])) fun x13 =>
  OX (gsel x11 false (unD .not x13)) fun x14 =>
  OX (pickD x11 (.b true) x14) fun x15 =>
  WB x15
  (Post (.b false) S2)
  (OX (faD 0 x1) fun x16 =>
  OX (ldD S2 1 false x16) fun x17 =>
  OX (faD 1 x1) fun x18 =>
  OX (ldD S2 1 false x18) fun x19 =>
  OX (faD 2 x1) fun x20 =>
  OX (ldD S2 1 false x20) fun x21 =>
  OX (isoCall cf 72 [x17, x19, x21]) fun x22 =>
  al [.sl 2 true [] .ro, .sl 3 true [] .ro, .i .i64 0] S2 fun x23 S24 =>
  OX (stD S24 3 true x23 x22) fun S26 =>
  OX (faD 2 x23) fun x27 =>
  OX (ldD S26 1 false x27) fun x28 =>
  OX (faD 2 x1) fun x29 =>
  OX (ldD S26 1 false x29) fun x30 =>
  OX (binD .eql .num x28 x30) fun x31 =>
  OX (gsel x31 true (faD 1 x23)) fun x32 =>
  OX (gsel x31 true (ldD S26 1 false x32)) fun x33 =>
  OX (gsel x31 true (faD 1 x1)) fun x34 =>
  OX (gsel x31 true (ldD S26 1 false x34)) fun x35 =>
  OX (gsel x31 true (isoCall cf 73 [x33, x35])) fun x36 =>
  OX (pickD x31 x36 (.b false)) fun x37 =>
  Post x37 S26)
theorem e33 (cf : CallF) (a0 : D) (S : Store) (Post : D → Store → Prop) : wp cf c33 (frame0 d33 [a0]) S (FinK d33.res Post) = s33 cf a0 S Post := wpS_of (by kernel_rfl)
theorem i33 (a0 : D) (r : D) (ha : noRefL (stripL [a0]) = true) (hr : noRef r = true) (h : s33 (call dp) (strip a0) [] fun d _ => stripT d = r) : isoCall (call dp) 33 [a0] = some r := iso_s (f := d33) rfl ⟨rfl, by decide⟩ ha hr (by rw [← e33] at h; exact h)
/-! lineage/lineagelaw11.few -/
def s11 (cf : CallF) (a0 : D) (S : Store) (Post : D → Store → Prop) : Prop :=
  bxx 3 true a0 S fun x1 S2 =>
  OX (faD 0 x1) fun x3 =>
  OX (ldD S2 1 false x3) fun x4 =>
  OX (isoCall cf 12 [x4]) fun x5 =>
  OX (gsel x5 true (faD 1 x1)) fun x6 =>
  OX (gsel x5 true (ldD S2 1 false x6)) fun x7 =>
  OX (gsel x5 true (lenD false x7)) fun x8 =>
  OX (gsel x5 true (binD .leq .num x8 (.i .i64 40))) fun x9 =>
  OX (pickD x5 x9 (.b false)) fun x10 =>
  Post x10 S2
theorem e11 (cf : CallF) (a0 : D) (S : Store) (Post : D → Store → Prop) : wp cf c11 (frame0 d11 [a0]) S (FinK d11.res Post) = s11 cf a0 S Post := wpS_of (by kernel_rfl)
theorem i11 (a0 : D) (r : D) (ha : noRefL (stripL [a0]) = true) (hr : noRef r = true) (h : s11 (call dp) (strip a0) [] fun d _ => stripT d = r) : isoCall (call dp) 11 [a0] = some r := iso_s (f := d11) rfl ⟨rfl, by decide⟩ ha hr (by rw [← e11] at h; exact h)
/-! lineage/lineagelaw11.short -/
def s12 (cf : CallF) (a0 : D) (S : Store) (Post : D → Store → Prop) : Prop :=
  OX (lenD false a0) fun x1 =>
  OX (binD .leq .num x1 (.i .i64 7)) fun x2 =>
  Post x2 S
theorem e12 (cf : CallF) (a0 : D) (S : Store) (Post : D → Store → Prop) : wp cf c12 (frame0 d12 [a0]) S (FinK d12.res Post) = s12 cf a0 S Post := wpS_of (by kernel_rfl)
theorem i12 (a0 : D) (r : D) (ha : noRefL (stripL [a0]) = true) (hr : noRef r = true) (h : s12 (call dp) (strip a0) [] fun d _ => stripT d = r) : isoCall (call dp) 12 [a0] = some r := iso_s (f := d12) rfl ⟨rfl, by decide⟩ ha hr (by rw [← e12] at h; exact h)
/-! lineage/lineageref11.Valid -/
def s24_r1 (cf : CallF) (a1 : D) (a2 : D) (a3 : D) (a4 : D) (a5 : D) (a6 : D) (a7 : D) (a36 : D) (a104 : D) (a121 : D) (S : Store) (Q : Ex → List D → Store → Prop) : Prop :=
  OX (lenD false a6) fun x1 =>
  OX (faD 1 a1) fun x2 =>
  OX (ldD S 1 false x2) fun x3 =>
  OX (lenD false x3) fun x4 =>
  OX (binD .eql .num x1 x4) fun x5 =>
  Q .ret (mkf 137 [(1, .top), (2, x5), (3, a3), (4, a4), (5, a5), (6, .top), (7, .top), (36, a36), (104, a104), (121, .top)]) S
theorem e24_r1 (cf : CallF) (a1 : D) (a2 : D) (a3 : D) (a4 : D) (a5 : D) (a6 : D) (a7 : D) (a36 : D) (a104 : D) (a121 : D) (S : Store) (Q : Ex → List D → Store → Prop) : wp cf c24_r1 (mkf 137 [(1, a1), (2, a2), (3, a3), (4, a4), (5, a5), (6, a6), (7, a7), (36, a36), (104, a104), (121, a121)]) S Q = s24_r1 cf a1 a2 a3 a4 a5 a6 a7 a36 a104 a121 S Q := wpS_of (by kernel_rfl)
def s24_0 (cf : CallF) (a1 : D) (a2 : D) (a3 : D) (a4 : D) (a5 : D) (a6 : D) (a7 : D) (a36 : D) (a104 : D) (a121 : D) (S : Store) (Q : Ex → List D → Store → Prop) : Prop :=
  OX (lenD false a6) fun x6 =>
  OX (binD .lss .num a7 x6) fun x7 =>
  WB x7
  (OX (iaD 1 a6 a7) fun x8 =>
  OX (ldD S 1 false x8) fun x9 =>
  OX (binD .add .num a7 (.i .i64 2)) fun x10 =>
  OX (binD .neq .num x9 x10) fun x11 =>
  WB x11
  (Q .ret (mkf 137 [(1, .top), (2, (.b false)), (3, a3), (4, a4), (5, a5), (6, .top), (7, .top), (36, a36), (104, a104), (121, .top)]) S)
  (OX (binD .add .num a7 (.i .i64 1)) fun x12 =>
  Q .normal (mkf 137 [(1, a1), (2, a2), (3, a3), (4, a4), (5, a5), (6, a6), (7, x12), (36, a36), (104, a104), (121, .top)]) S))
  (Q (.exit 4) (mkf 137 [(1, a1), (2, a2), (3, a3), (4, a4), (5, a5), (6, a6), (7, a7), (36, a36), (104, a104), (121, x7)]) S)
theorem e24_0 (cf : CallF) (a1 : D) (a2 : D) (a3 : D) (a4 : D) (a5 : D) (a6 : D) (a7 : D) (a36 : D) (a104 : D) (a121 : D) (S : Store) (Q : Ex → List D → Store → Prop) : wp cf c24_0 (fkill (mkf 137 [(1, a1), (2, a2), (3, a3), (4, a4), (5, a5), (6, a6), (7, a7), (36, a36), (104, a104), (121, a121)]) []) S Q = s24_0 cf a1 a2 a3 a4 a5 a6 a7 a36 a104 a121 S Q := wpS_of (by kernel_rfl)
def s24_r0 (cf : CallF) (a1 : D) (a2 : D) (a3 : D) (a4 : D) (a5 : D) (a6 : D) (a7 : D) (a36 : D) (a104 : D) (a121 : D) (S : Store) (Q : Ex → List D → Store → Prop) : Prop :=
  OX (binD .add .num a3 (.i .i64 1)) fun x13 =>
  Q .normal (mkf 137 [(1, a1), (2, a2), (3, x13), (4, .top), (5, .top), (6, a6), (7, a7), (36, a36), (104, .top), (121, a121)]) S
theorem e24_r0 (cf : CallF) (a1 : D) (a2 : D) (a3 : D) (a4 : D) (a5 : D) (a6 : D) (a7 : D) (a36 : D) (a104 : D) (a121 : D) (S : Store) (Q : Ex → List D → Store → Prop) : wp cf c24_r0 (mkf 137 [(1, a1), (2, a2), (3, a3), (4, a4), (5, a5), (6, a6), (7, a7), (36, a36), (104, a104), (121, a121)]) S Q = s24_r0 cf a1 a2 a3 a4 a5 a6 a7 a36 a104 a121 S Q := wpS_of (by kernel_rfl)
def s24_1 (cf : CallF) (a1 : D) (a2 : D) (a3 : D) (a4 : D) (a5 : D) (a6 : D) (a7 : D) (a36 : D) (a104 : D) (a121 : D) (S : Store) (Q : Ex → List D → Store → Prop) : Prop :=
  OX (binD .lss .num a5 a3) fun x14 =>
  WB x14
  (OX (faD 1 a1) fun x15 =>
  OX (ldD S 1 false x15) fun x16 =>
  OX (iaD 3 x16 a5) fun x17 =>
  OX (ldD S 3 true x17) fun x18 =>
  OX (ldD S 3 true a4) fun x19 =>
  OX (binD .eql (.agg [.i, .i, .i]) x18 x19) fun x20 =>
  WB x20
  (Q .ret (mkf 137 [(1, .top), (2, (.b false)), (3, .top), (4, .top), (5, .top), (6, a6), (7, a7), (36, a36), (104, .top), (121, a121)]) S)
  (OX (binD .add .num a5 (.i .i64 1)) fun x21 =>
  Q .normal (mkf 137 [(1, a1), (2, a2), (3, a3), (4, a4), (5, x21), (6, a6), (7, a7), (36, a36), (104, .top), (121, a121)]) S))
  (Q (.exit 2) (mkf 137 [(1, a1), (2, a2), (3, a3), (4, a4), (5, a5), (6, a6), (7, a7), (36, a36), (104, x14), (121, a121)]) S)
theorem e24_1 (cf : CallF) (a1 : D) (a2 : D) (a3 : D) (a4 : D) (a5 : D) (a6 : D) (a7 : D) (a36 : D) (a104 : D) (a121 : D) (S : Store) (Q : Ex → List D → Store → Prop) : wp cf c24_1 (fkill (mkf 137 [(1, a1), (2, a2), (3, a3), (4, a4), (5, a5), (6, a6), (7, a7), (36, a36), (104, a104), (121, a121)]) []) S Q = s24_1 cf a1 a2 a3 a4 a5 a6 a7 a36 a104 a121 S Q := wpS_of (by kernel_rfl)
def s24_r2 (cf : CallF) (a1 : D) (a2 : D) (a3 : D) (a4 : D) (a5 : D) (a6 : D) (a7 : D) (a36 : D) (a104 : D) (a121 : D) (S : Store) (Q : Ex → List D → Store → Prop) : Prop :=
  OX (ldD S 3 true a1) fun x22 =>
  OX (faD 2 a1) fun x23 =>
  OX (ldD S 1 false x23) fun x24 =>
  OX (cf 57 [x22, x24, (.sl 1 true [] .ro)] S) fun p26 =>
  W cf (.loop [] c24_0) (mkf 137 [(1, a1), (2, a2), (3, .top), (4, a4), (5, a5), (6, p26.1), (7, (.i .i64 0)), (36, .top), (104, a104), (121, a121)]) p26.2 (Qblk 4 (QS cf c24_r1 Q))
theorem e24_r2 (cf : CallF) (a1 : D) (a2 : D) (a3 : D) (a4 : D) (a5 : D) (a6 : D) (a7 : D) (a36 : D) (a104 : D) (a121 : D) (S : Store) (Q : Ex → List D → Store → Prop) : wp cf c24_r2 (mkf 137 [(1, a1), (2, a2), (3, a3), (4, a4), (5, a5), (6, a6), (7, a7), (36, a36), (104, a104), (121, a121)]) S Q = s24_r2 cf a1 a2 a3 a4 a5 a6 a7 a36 a104 a121 S Q := wpS_of (by kernel_rfl)
def s24_2 (cf : CallF) (a1 : D) (a2 : D) (a3 : D) (a4 : D) (a5 : D) (a6 : D) (a7 : D) (a36 : D) (a104 : D) (a121 : D) (S : Store) (Q : Ex → List D → Store → Prop) : Prop :=
  OX (faD 1 a1) fun x27 =>
  OX (ldD S 1 false x27) fun x28 =>
  OX (lenD false x28) fun x29 =>
  OX (binD .lss .num a3 x29) fun x30 =>
  WB x30
  (OX (faD 1 a1) fun x31 =>
  OX (ldD S 1 false x31) fun x32 =>
  OX (iaD 3 x32 a3) fun x33 =>
  OX (ldD S 3 true x33) fun x34 =>
  al [.i .i64 0, .i .i64 0, .i .i64 0] S fun x35 S36 =>
  OX (stD S36 3 true x35 x34) fun S38 =>
  OX (faD 0 x35) fun x39 =>
  OX (ldD S38 1 false x39) fun x40 =>
  OX (binD .lss .num x40 (.i .i64 0)) fun x41 =>
  OX (gsel x41 false (faD 0 x35)) fun x42 =>
  OX (gsel x41 false (ldD S38 1 false x42)) fun x43 =>
  OX (gsel x41 false (faD 0 a1)) fun x44 =>
  OX (gsel x41 false (ldD S38 1 false x44)) fun x45 =>
  OX (gsel x41 false (lenD false x45)) fun x46 =>
  OX (gsel x41 false (binD .geq .num x43 x46)) fun x47 =>
  OX (pickD x41 (.b true) x47) fun x48 =>
  OX (gsel x48 false (faD 1 x35)) fun x49 =>
  OX (gsel x48 false (ldD S38 1 false x49)) fun x50 =>
  OX (gsel x48 false (binD .lss .num x50 (.i .i64 0))) fun x51 =>
  OX (pickD x48 (.b true) x51) fun x52 =>
  OX (gsel x52 false (faD 2 x35)) fun x53 =>
  OX (gsel x52 false (ldD S38 1 false x53)) fun x54 =>
  OX (gsel x52 false (binD .lss .num x54 (.i .i64 0))) fun x55 =>
  OX (pickD x52 (.b true) x55) fun x56 =>
  OX (gsel x56 false (faD 1 x35)) fun x57 =>
  OX (gsel x56 false (ldD S38 1 false x57)) fun x58 =>
  OX (gsel x56 false (some a3)) fun x59 =>
  OX (gsel x56 false (binD .add .num x59 (.i .i64 2))) fun x60 =>
  OX (gsel x56 false (binD .geq .num x58 x60)) fun x61 =>
  OX (pickD x56 (.b true) x61) fun x62 =>
  OX (gsel x62 false (faD 2 x35)) fun x63 =>
  OX (gsel x62 false (ldD S38 1 false x63)) fun x64 =>
  OX (gsel x62 false (some a3)) fun x65 =>
  OX (gsel x62 false (binD .add .num x65 (.i .i64 2))) fun x66 =>
  OX (gsel x62 false (binD .geq .num x64 x66)) fun x67 =>
  OX (pickD x62 (.b true) x67) fun x68 =>
  OX (gsel x68 false (faD 1 x35)) fun x69 =>
  OX (gsel x68 false (ldD S38 1 false x69)) fun x70 =>
  OX (gsel x68 false (faD 2 x35)) fun x71 =>
  OX (gsel x68 false (ldD S38 1 false x71)) fun x72 =>
  OX (gsel x68 false (binD .eql .num x70 x72)) fun x73 =>
  OX (pickD x68 (.b true) x73) fun x74 =>
  WB x74
  (Q .ret (mkf 137 [(1, .top), (2, (.b false)), (3, .top), (4, .top), (5, a5), (6, a6), (7, a7), (36, .top), (104, a104), (121, a121)]) S38)
  (OX (ldD S38 3 true a1) fun x75 =>
  OX (faD 1 x35) fun x76 =>
  OX (ldD S38 1 false x76) fun x77 =>
  OX (isoCall cf 56 [x75, x77]) fun x78 =>
  OX (faD 0 x35) fun x79 =>
  OX (ldD S38 1 false x79) fun x80 =>
  OX (binD .leq .num x78 x80) fun x81 =>
  OX (gsel x81 false (ldD S38 3 true a1)) fun x82 =>
  OX (gsel x81 false (faD 2 x35)) fun x83 =>
  OX (gsel x81 false (ldD S38 1 false x83)) fun x84 =>
  OX (gsel x81 false (isoCall cf 56 [x82, x84])) fun x85 =>
  OX (gsel x81 false (faD 0 x35)) fun x86 =>
  OX (gsel x81 false (ldD S38 1 false x86)) fun x87 =>
  OX (gsel x81 false (binD .leq .num x85 x87)) fun x88 =>
  OX (pickD x81 (.b true) x88) fun x89 =>
  WB x89
  (Q .ret (mkf 137 [(1, .top), (2, (.b false)), (3, .top), (4, .top), (5, a5), (6, a6), (7, a7), (36, .top), (104, a104), (121, a121)]) S38)
  (W cf (.loop [] c24_1) (mkf 137 [(1, a1), (2, a2), (3, a3), (4, x35), (5, (.i .i64 0)), (6, a6), (7, a7), (36, .top), (104, a104), (121, a121)]) S38 (Qblk 2 (Qblk 1 (QS cf c24_r0 Q))))))
  (Q (.exit 0) (mkf 137 [(1, a1), (2, a2), (3, a3), (4, a4), (5, a5), (6, a6), (7, a7), (36, x30), (104, a104), (121, a121)]) S)
theorem e24_2 (cf : CallF) (a1 : D) (a2 : D) (a3 : D) (a4 : D) (a5 : D) (a6 : D) (a7 : D) (a36 : D) (a104 : D) (a121 : D) (S : Store) (Q : Ex → List D → Store → Prop) : wp cf c24_2 (fkill (mkf 137 [(1, a1), (2, a2), (3, a3), (4, a4), (5, a5), (6, a6), (7, a7), (36, a36), (104, a104), (121, a121)]) []) S Q = s24_2 cf a1 a2 a3 a4 a5 a6 a7 a36 a104 a121 S Q := wpS_of (by kernel_rfl)
def s24 (cf : CallF) (a0 : D) (S : Store) (Post : D → Store → Prop) : Prop :=
  bxx 3 true a0 S fun x90 S91 =>
  OX (faD 0 x90) fun x92 =>
  OX (ldD S91 1 false x92) fun x93 =>
  OX (isoCall cf 16 [x93]) fun x94 =>
  OX (unD .not x94) fun x95 =>
  OX (gsel x95 false (faD 1 x90)) fun x96 =>
  OX (gsel x95 false (ldD S91 1 false x96)) fun x97 =>
  OX (gsel x95 false (lenD false x97)) fun x98 =>
  OX (gsel x95 false (binD .gtr .num x98 (.i .i64 4096))) fun x99 =>
  OX (pickD x95 (.b true) x99) fun x100 =>
  OX (gsel x100 false (faD 2 x90)) fun x101 =>
  OX (gsel x100 false (ldD S91 1 false x101)) fun x102 =>
  OX (gsel x100 false (binD .lss .num x102 (.i .i64 0))) fun x103 =>
  OX (pickD x100 (.b true) x103) fun x104 =>
  OX (gsel x104 false (faD 2 x90)) fun x105 =>
  OX (gsel x104 false (ldD S91 1 false x105)) fun x106 =>
  OX (gsel x104 false (faD 1 x90)) fun x107 =>
  OX (gsel x104 false (ldD S91 1 false x107)) fun x108 =>
  OX (gsel x104 false (lenD false x108)) fun x109 =>
  OX (gsel x104 false (binD .add .num x109 (.i .i64 2))) fun x110 =>
  OX (gsel x104 false (binD .geq .num x106 x110)) fun x111 =>
  OX (pickD x104 (.b true) x111) fun x112 =>
  WB x112
  (Post (.b false) S91)
  (W cf (.loop [] c24_2) (mkf 137 [(1, x90), (2, .top), (3, (.i .i64 0)), (4, .top), (5, .top), (6, .top), (7, .top), (36, .top), (104, .top), (121, .top)]) S91 (Qblk 0 (QS cf c24_r2 (FinK [.t 2] Post))))
theorem e24 (cf : CallF) (a0 : D) (S : Store) (Post : D → Store → Prop) : wp cf c24 (frame0 d24 [a0]) S (FinK d24.res Post) = s24 cf a0 S Post := wpS_of (by kernel_rfl)
theorem i24 (a0 : D) (r : D) (ha : noRefL (stripL [a0]) = true) (hr : noRef r = true) (h : s24 (call dp) (strip a0) [] fun d _ => stripT d = r) : isoCall (call dp) 24 [a0] = some r := iso_s (f := d24) rfl ⟨rfl, by decide⟩ ha hr (by rw [← e24] at h; exact h)
/-! lineage/lineageref11.walk -/
def s57_r0 (cf : CallF) (a1 : D) (a2 : D) (a3 : D) (a6 : D) (a7 : D) (a14 : D) (S : Store) (Q : Ex → List D → Store → Prop) : Prop :=
  OX (ldD S 3 true a3) fun x1 =>
  OX (faD 1 a3) fun x2 =>
  OX (ldD S 1 false x2) fun x3 =>
  OX (binD .sub .num a1 (.i .i64 2)) fun x4 =>
  OX (iaD 3 x3 x4) fun x5 =>
  OX (faD 1 x5) fun x6 =>
  OX (ldD S 1 false x6) fun x7 =>
  OX (cf 57 [x1, x7, a2] S) fun p9 =>
  OX (ldD p9.2 3 true a3) fun x10 =>
  OX (faD 1 a3) fun x11 =>
  OX (ldD p9.2 1 false x11) fun x12 =>
  OX (binD .sub .num a1 (.i .i64 2)) fun x13 =>
  OX (iaD 3 x12 x13) fun x14 =>
  OX (faD 2 x14) fun x15 =>
  OX (ldD p9.2 1 false x15) fun x16 =>
  OX (cf 57 [x10, x16, p9.1] p9.2) fun p18 =>
  OX (cellsV 1 false [a1]) fun x19 =>
  OX (appD 1 false p18.1 (.sl 1 false x19 .ro) p18.2) fun p21 =>
  Q .ret (mkf 48 [(1, .top), (2, .top), (3, .top), (6, p21.1), (7, .top), (14, .top)]) p21.2
theorem e57_r0 (cf : CallF) (a1 : D) (a2 : D) (a3 : D) (a6 : D) (a7 : D) (a14 : D) (S : Store) (Q : Ex → List D → Store → Prop) : wp cf c57_r0 (mkf 48 [(1, a1), (2, a2), (3, a3), (6, a6), (7, a7), (14, a14)]) S Q = s57_r0 cf a1 a2 a3 a6 a7 a14 S Q := wpS_of (by kernel_rfl)
def s57_0 (cf : CallF) (a1 : D) (a2 : D) (a3 : D) (a6 : D) (a7 : D) (a14 : D) (S : Store) (Q : Ex → List D → Store → Prop) : Prop :=
  OX (lenD false a2) fun x22 =>
  OX (binD .lss .num a7 x22) fun x23 =>
  WB x23
  (OX (iaD 1 a2 a7) fun x24 =>
  OX (ldD S 1 false x24) fun x25 =>
  OX (binD .eql .num x25 a1) fun x26 =>
  WB x26
  (Q .ret (mkf 48 [(1, .top), (2, .top), (3, .top), (6, a2), (7, .top), (14, .top)]) S)
  (OX (binD .add .num a7 (.i .i64 1)) fun x27 =>
  Q .normal (mkf 48 [(1, a1), (2, a2), (3, a3), (6, a6), (7, x27), (14, .top)]) S))
  (Q (.exit 0) (mkf 48 [(1, a1), (2, a2), (3, a3), (6, a6), (7, a7), (14, x23)]) S)
theorem e57_0 (cf : CallF) (a1 : D) (a2 : D) (a3 : D) (a6 : D) (a7 : D) (a14 : D) (S : Store) (Q : Ex → List D → Store → Prop) : wp cf c57_0 (fkill (mkf 48 [(1, a1), (2, a2), (3, a3), (6, a6), (7, a7), (14, a14)]) []) S Q = s57_0 cf a1 a2 a3 a6 a7 a14 S Q := wpS_of (by kernel_rfl)
def s57 (cf : CallF) (a0 : D) (a1 : D) (a2 : D) (S : Store) (Post : D → Store → Prop) : Prop :=
  bxx 3 true a0 S fun x28 S29 =>
  OX (binD .lss .num a1 (.i .i64 2)) fun x30 =>
  WB x30
  (Post a2 S29)
  (W cf (.loop [] c57_0) (mkf 48 [(1, a1), (2, a2), (3, x28), (6, .top), (7, (.i .i64 0)), (14, .top)]) S29 (Qblk 0 (QS cf c57_r0 (FinK [.t 6] Post))))
theorem e57 (cf : CallF) (a0 : D) (a1 : D) (a2 : D) (S : Store) (Post : D → Store → Prop) : wp cf c57 (frame0 d57 [a0, a1, a2]) S (FinK d57.res Post) = s57 cf a0 a1 a2 S Post := wpS_of (by kernel_rfl)
theorem f57 (a0 : D) (a1 : D) (a2 : D) (S : Store) (Post : D → Store → Prop) (h : s57 (call dp) a0 a1 a2 S Post) : ∃ r S', call dp 57 [a0, a1, a2] S = some (r, S') ∧ Post r S' := call_s (f := d57) rfl ⟨rfl, by decide⟩ (by rw [← e57] at h; exact h)

/-! lineage/lineageref11.variable -/
def s56 (cf : CallF) (a0 : D) (a1 : D) (S : Store) (Post : D → Store → Prop) : Prop :=
  bxx 3 true a0 S fun x1 S2 =>
  OX (binD .lss .num a1 (.i .i64 2)) fun x3 =>
  WB x3
  (OX (faD 0 x1) fun x4 =>
  OX (ldD S2 1 false x4) fun x5 =>
  OX (lenD false x5) fun x6 =>
  Post x6 S2)
  (OX (faD 1 x1) fun x7 =>
  OX (ldD S2 1 false x7) fun x8 =>
  OX (binD .sub .num a1 (.i .i64 2)) fun x9 =>
  OX (iaD 3 x8 x9) fun x10 =>
  OX (faD 0 x10) fun x11 =>
  OX (ldD S2 1 false x11) fun x12 =>
  Post x12 S2)
theorem e56 (cf : CallF) (a0 : D) (a1 : D) (S : Store) (Post : D → Store → Prop) : wp cf c56 (frame0 d56 [a0, a1]) S (FinK d56.res Post) = s56 cf a0 a1 S Post := wpS_of (by kernel_rfl)
theorem i56 (a0 : D) (a1 : D) (r : D) (ha : noRefL (stripL [a0, a1]) = true) (hr : noRef r = true) (h : s56 (call dp) (strip a0) (strip a1) [] fun d _ => stripT d = r) : isoCall (call dp) 56 [a0, a1] = some r := iso_s (f := d56) rfl ⟨rfl, by decide⟩ ha hr (by rw [← e56] at h; exact h)
/-! lineage/lineageref11.Order -/
def s16_r0 (cf : CallF) (a0 : D) (a2 : D) (a3 : D) (a4 : D) (a8 : D) (a19 : D) (S : Store) (Q : Ex → List D → Store → Prop) : Prop :=
  OX (binD .add .num a3 (.i .i64 1)) fun x1 =>
  Q .normal (mkf 34 [(0, a0), (2, a2), (3, x1), (4, .top), (8, a8), (19, .top)]) S
theorem e16_r0 (cf : CallF) (a0 : D) (a2 : D) (a3 : D) (a4 : D) (a8 : D) (a19 : D) (S : Store) (Q : Ex → List D → Store → Prop) : wp cf c16_r0 (mkf 34 [(0, a0), (2, a2), (3, a3), (4, a4), (8, a8), (19, a19)]) S Q = s16_r0 cf a0 a2 a3 a4 a8 a19 S Q := wpS_of (by kernel_rfl)
def s16_0 (cf : CallF) (a0 : D) (a2 : D) (a3 : D) (a4 : D) (a8 : D) (a19 : D) (S : Store) (Q : Ex → List D → Store → Prop) : Prop :=
  OX (binD .lss .num a4 a3) fun x2 =>
  WB x2
  (OX (iaD 2 a0 a4) fun x3 =>
  OX (ldD S 2 true x3) fun x4 =>
  OX (iaD 2 a0 a3) fun x5 =>
  OX (ldD S 2 true x5) fun x6 =>
  OX (binD .eql (.agg [.i, .i]) x4 x6) fun x7 =>
  WB x7
  (Q .ret (mkf 34 [(0, .top), (2, (.b false)), (3, .top), (4, .top), (8, a8), (19, .top)]) S)
  (OX (binD .add .num a4 (.i .i64 1)) fun x8 =>
  Q .normal (mkf 34 [(0, a0), (2, a2), (3, a3), (4, x8), (8, a8), (19, .top)]) S))
  (Q (.exit 2) (mkf 34 [(0, a0), (2, a2), (3, a3), (4, a4), (8, a8), (19, x2)]) S)
theorem e16_0 (cf : CallF) (a0 : D) (a2 : D) (a3 : D) (a4 : D) (a8 : D) (a19 : D) (S : Store) (Q : Ex → List D → Store → Prop) : wp cf c16_0 (fkill (mkf 34 [(0, a0), (2, a2), (3, a3), (4, a4), (8, a8), (19, a19)]) []) S Q = s16_0 cf a0 a2 a3 a4 a8 a19 S Q := wpS_of (by kernel_rfl)
def s16_r1 (cf : CallF) (a0 : D) (a2 : D) (a3 : D) (a4 : D) (a8 : D) (a19 : D) (S : Store) (Q : Ex → List D → Store → Prop) : Prop :=
  OX (lenD false a0) fun x9 =>
  OX (binD .leq .num x9 (.i .i64 4096)) fun x10 =>
  Q .ret (mkf 34 [(0, .top), (2, x10), (3, .top), (4, a4), (8, .top), (19, a19)]) S
theorem e16_r1 (cf : CallF) (a0 : D) (a2 : D) (a3 : D) (a4 : D) (a8 : D) (a19 : D) (S : Store) (Q : Ex → List D → Store → Prop) : wp cf c16_r1 (mkf 34 [(0, a0), (2, a2), (3, a3), (4, a4), (8, a8), (19, a19)]) S Q = s16_r1 cf a0 a2 a3 a4 a8 a19 S Q := wpS_of (by kernel_rfl)
def s16_1 (cf : CallF) (a0 : D) (a2 : D) (a3 : D) (a4 : D) (a8 : D) (a19 : D) (S : Store) (Q : Ex → List D → Store → Prop) : Prop :=
  OX (lenD false a0) fun x11 =>
  OX (binD .lss .num a3 x11) fun x12 =>
  WB x12
  (OX (iaD 2 a0 a3) fun x13 =>
  OX (ldD S 2 true x13) fun x14 =>
  OX (isoCall cf 51 [x14]) fun x15 =>
  OX (unD .not x15) fun x16 =>
  WB x16
  (Q .ret (mkf 34 [(0, .top), (2, (.b false)), (3, .top), (4, a4), (8, .top), (19, a19)]) S)
  (W cf (.loop [] c16_0) (mkf 34 [(0, a0), (2, a2), (3, a3), (4, (.i .i64 0)), (8, .top), (19, a19)]) S (Qblk 2 (Qblk 1 (QS cf c16_r0 Q)))))
  (Q (.exit 0) (mkf 34 [(0, a0), (2, a2), (3, a3), (4, a4), (8, x12), (19, a19)]) S)
theorem e16_1 (cf : CallF) (a0 : D) (a2 : D) (a3 : D) (a4 : D) (a8 : D) (a19 : D) (S : Store) (Q : Ex → List D → Store → Prop) : wp cf c16_1 (fkill (mkf 34 [(0, a0), (2, a2), (3, a3), (4, a4), (8, a8), (19, a19)]) []) S Q = s16_1 cf a0 a2 a3 a4 a8 a19 S Q := wpS_of (by kernel_rfl)
def s16 (cf : CallF) (a0 : D) (S : Store) (Post : D → Store → Prop) : Prop :=
  W cf (.loop [] c16_1) (mkf 34 [(0, a0), (2, .top), (3, (.i .i64 0)), (4, .top), (8, .top), (19, .top)]) S (Qblk 0 (QS cf c16_r1 (FinK [.t 2] Post)))
theorem e16 (cf : CallF) (a0 : D) (S : Store) (Post : D → Store → Prop) : wp cf c16 (frame0 d16 [a0]) S (FinK d16.res Post) = s16 cf a0 S Post := wpS_of (by kernel_rfl)
theorem i16 (a0 : D) (r : D) (ha : noRefL (stripL [a0]) = true) (hr : noRef r = true) (h : s16 (call dp) (strip a0) [] fun d _ => stripT d = r) : isoCall (call dp) 16 [a0] = some r := iso_s (f := d16) rfl ⟨rfl, by decide⟩ ha hr (by rw [← e16] at h; exact h)
/-! lineage/lineageref11.Same -/
def s17_r0 (cf : CallF) (a2 : D) (a3 : D) (a4 : D) (a5 : D) (a32 : D) (S : Store) (Q : Ex → List D → Store → Prop) : Prop :=
  Q .ret (mkf 46 [(2, .top), (3, .top), (4, (.b true)), (5, .top), (32, .top)]) S
theorem e17_r0 (cf : CallF) (a2 : D) (a3 : D) (a4 : D) (a5 : D) (a32 : D) (S : Store) (Q : Ex → List D → Store → Prop) : wp cf c17_r0 (mkf 46 [(2, a2), (3, a3), (4, a4), (5, a5), (32, a32)]) S Q = s17_r0 cf a2 a3 a4 a5 a32 S Q := wpS_of (by kernel_rfl)
def s17_0 (cf : CallF) (a2 : D) (a3 : D) (a4 : D) (a5 : D) (a32 : D) (S : Store) (Q : Ex → List D → Store → Prop) : Prop :=
  OX (faD 1 a2) fun x1 =>
  OX (ldD S 1 false x1) fun x2 =>
  OX (lenD false x2) fun x3 =>
  OX (binD .lss .num a5 x3) fun x4 =>
  WB x4
  (OX (faD 1 a2) fun x5 =>
  OX (ldD S 1 false x5) fun x6 =>
  OX (iaD 3 x6 a5) fun x7 =>
  OX (ldD S 3 true x7) fun x8 =>
  OX (faD 1 a3) fun x9 =>
  OX (ldD S 1 false x9) fun x10 =>
  OX (iaD 3 x10 a5) fun x11 =>
  OX (ldD S 3 true x11) fun x12 =>
  OX (binD .neq (.agg [.i, .i, .i]) x8 x12) fun x13 =>
  WB x13
  (Q .ret (mkf 46 [(2, .top), (3, .top), (4, (.b false)), (5, .top), (32, .top)]) S)
  (OX (binD .add .num a5 (.i .i64 1)) fun x14 =>
  Q .normal (mkf 46 [(2, a2), (3, a3), (4, a4), (5, x14), (32, .top)]) S))
  (Q (.exit 0) (mkf 46 [(2, a2), (3, a3), (4, a4), (5, a5), (32, x4)]) S)
theorem e17_0 (cf : CallF) (a2 : D) (a3 : D) (a4 : D) (a5 : D) (a32 : D) (S : Store) (Q : Ex → List D → Store → Prop) : wp cf c17_0 (fkill (mkf 46 [(2, a2), (3, a3), (4, a4), (5, a5), (32, a32)]) []) S Q = s17_0 cf a2 a3 a4 a5 a32 S Q := wpS_of (by kernel_rfl)
def s17 (cf : CallF) (a0 : D) (a1 : D) (S : Store) (Post : D → Store → Prop) : Prop :=
  bxx 3 true a0 S fun x15 S16 =>
  bxx 3 true a1 S16 fun x17 S18 =>
  OX (faD 2 x15) fun x19 =>
  OX (ldD S18 1 false x19) fun x20 =>
  OX (faD 2 x17) fun x21 =>
  OX (ldD S18 1 false x21) fun x22 =>
  OX (binD .neq .num x20 x22) fun x23 =>
  OX (gsel x23 false (faD 0 x15)) fun x24 =>
  OX (gsel x23 false (ldD S18 1 false x24)) fun x25 =>
  OX (gsel x23 false (faD 0 x17)) fun x26 =>
  OX (gsel x23 false (ldD S18 1 false x26)) fun x27 =>
  OX (gsel x23 false (isoCall cf 52 [x25, x27])) fun x28 =>
  OX (gsel x23 false (unD .not x28)) fun x29 =>
  OX (pickD x23 (.b true) x29) fun x30 =>
  OX (gsel x30 false (faD 1 x15)) fun x31 =>
  OX (gsel x30 false (ldD S18 1 false x31)) fun x32 =>
  OX (gsel x30 false (lenD false x32)) fun x33 =>
  OX (gsel x30 false (faD 1 x17)) fun x34 =>
  OX (gsel x30 false (ldD S18 1 false x34)) fun x35 =>
  OX (gsel x30 false (lenD false x35)) fun x36 =>
  OX (gsel x30 false (binD .neq .num x33 x36)) fun x37 =>
  OX (pickD x30 (.b true) x37) fun x38 =>
  WB x38
  (Post (.b false) S18)
  (W cf (.loop [] c17_0) (mkf 46 [(2, x15), (3, x17), (4, .top), (5, (.i .i64 0)), (32, .top)]) S18 (Qblk 0 (QS cf c17_r0 (FinK [.t 4] Post))))
theorem e17 (cf : CallF) (a0 : D) (a1 : D) (S : Store) (Post : D → Store → Prop) : wp cf c17 (frame0 d17 [a0, a1]) S (FinK d17.res Post) = s17 cf a0 a1 S Post := wpS_of (by kernel_rfl)
theorem i17 (a0 : D) (a1 : D) (r : D) (ha : noRefL (stripL [a0, a1]) = true) (hr : noRef r = true) (h : s17 (call dp) (strip a0) (strip a1) [] fun d _ => stripT d = r) : isoCall (call dp) 17 [a0, a1] = some r := iso_s (f := d17) rfl ⟨rfl, by decide⟩ ha hr (by rw [← e17] at h; exact h)
/-! lineage/lineageref11.SameOrder -/
def s52_r0 (cf : CallF) (a0 : D) (a1 : D) (a4 : D) (a5 : D) (a14 : D) (S : Store) (Q : Ex → List D → Store → Prop) : Prop :=
  Q .ret (mkf 26 [(0, .top), (1, .top), (4, (.b true)), (5, .top), (14, .top)]) S
theorem e52_r0 (cf : CallF) (a0 : D) (a1 : D) (a4 : D) (a5 : D) (a14 : D) (S : Store) (Q : Ex → List D → Store → Prop) : wp cf c52_r0 (mkf 26 [(0, a0), (1, a1), (4, a4), (5, a5), (14, a14)]) S Q = s52_r0 cf a0 a1 a4 a5 a14 S Q := wpS_of (by kernel_rfl)
def s52_0 (cf : CallF) (a0 : D) (a1 : D) (a4 : D) (a5 : D) (a14 : D) (S : Store) (Q : Ex → List D → Store → Prop) : Prop :=
  OX (lenD false a0) fun x1 =>
  OX (binD .lss .num a5 x1) fun x2 =>
  WB x2
  (OX (iaD 2 a0 a5) fun x3 =>
  OX (ldD S 2 true x3) fun x4 =>
  OX (iaD 2 a1 a5) fun x5 =>
  OX (ldD S 2 true x5) fun x6 =>
  OX (binD .neq (.agg [.i, .i]) x4 x6) fun x7 =>
  WB x7
  (Q .ret (mkf 26 [(0, .top), (1, .top), (4, (.b false)), (5, .top), (14, .top)]) S)
  (OX (binD .add .num a5 (.i .i64 1)) fun x8 =>
  Q .normal (mkf 26 [(0, a0), (1, a1), (4, a4), (5, x8), (14, .top)]) S))
  (Q (.exit 0) (mkf 26 [(0, a0), (1, a1), (4, a4), (5, a5), (14, x2)]) S)
theorem e52_0 (cf : CallF) (a0 : D) (a1 : D) (a4 : D) (a5 : D) (a14 : D) (S : Store) (Q : Ex → List D → Store → Prop) : wp cf c52_0 (fkill (mkf 26 [(0, a0), (1, a1), (4, a4), (5, a5), (14, a14)]) []) S Q = s52_0 cf a0 a1 a4 a5 a14 S Q := wpS_of (by kernel_rfl)
def s52 (cf : CallF) (a0 : D) (a1 : D) (S : Store) (Post : D → Store → Prop) : Prop :=
  OX (lenD false a0) fun x9 =>
  OX (lenD false a1) fun x10 =>
  OX (binD .neq .num x9 x10) fun x11 =>
  WB x11
  (Post (.b false) S)
  (W cf (.loop [] c52_0) (mkf 26 [(0, a0), (1, a1), (4, .top), (5, (.i .i64 0)), (14, .top)]) S (Qblk 0 (QS cf c52_r0 (FinK [.t 4] Post))))
theorem e52 (cf : CallF) (a0 : D) (a1 : D) (S : Store) (Post : D → Store → Prop) : wp cf c52 (frame0 d52 [a0, a1]) S (FinK d52.res Post) = s52 cf a0 a1 S Post := wpS_of (by kernel_rfl)
theorem i52 (a0 : D) (a1 : D) (r : D) (ha : noRefL (stripL [a0, a1]) = true) (hr : noRef r = true) (h : s52 (call dp) (strip a0) (strip a1) [] fun d _ => stripT d = r) : isoCall (call dp) 52 [a0, a1] = some r := iso_s (f := d52) rfl ⟨rfl, by decide⟩ ha hr (by rw [← e52] at h; exact h)
/-! lineage/lineagelaw11.BddValid -/
end Go.Proofs.YtjlmeikcfdanmaaGreatDoor.DE

namespace Go.Proofs.YtjlmeikcfdanmaaGreatDoor.BT

/-- A decision tree. -/
inductive T where
  | leaf (b : Bool)
  | node (v : Nat) (l h : T)

abbrev Nd := Int × Int × Int

noncomputable instance : DecidableEq T := fun _ _ => Classical.propDecidable _

def T.size : T → Nat
  | .leaf _ => 0
  | .node _ l h => l.size + h.size + 1

noncomputable def pos : List T → T → Nat
  | [], _ => 0
  | x :: l, t => if x = t then 0 else pos l t + 1

theorem pos_lt {t : T} : ∀ {L : List T}, t ∈ L → pos L t < L.length
  | x :: l, h => by
    unfold pos
    split
    · simp
    · rename_i hx
      rcases List.mem_cons.1 h with h | h
      · exact absurd h.symm hx
      · simpa using pos_lt h

theorem pos_get {t : T} : ∀ {L : List T}, t ∈ L → L[pos L t]? = some t
  | x :: l, h => by
    unfold pos
    split
    · rename_i hx; simp [hx]
    · rename_i hx
      rcases List.mem_cons.1 h with h | h
      · exact absurd h.symm hx
      · simpa using pos_get h

theorem pos_app {t : T} (M : List T) : ∀ {L : List T}, t ∈ L → pos (L ++ M) t = pos L t
  | x :: l, h => by
    simp only [List.cons_append, pos]
    split
    · rfl
    · rename_i hx
      rcases List.mem_cons.1 h with h | h
      · exact absurd h.symm hx
      · rw [pos_app M h]

theorem pos_new {t : T} (M : List T) : ∀ {L : List T}, t ∉ L → pos (L ++ t :: M) t = L.length
  | [], _ => by simp [pos]
  | x :: l, h => by
    simp only [List.cons_append, pos]
    split
    · rename_i hx; exact absurd (by simp [hx]) h
    · rw [pos_new M (fun k => h (List.mem_cons_of_mem _ k))]; rfl

theorem pos_inj {L : List T} {t s : T} (ht : t ∈ L) (hs : s ∈ L) (h : pos L t = pos L s) : t = s := by
  have a := pos_get ht
  rw [h, pos_get hs] at a
  injection a with a
  exact a.symm

noncomputable def code (L : List T) : T → Int
  | .leaf b => if b then 1 else 0
  | .node v l h => (pos L (.node v l h) : Int) + 2

def sub (L : List T) : T → Prop
  | .leaf _ => True
  | .node v l h => .node v l h ∈ L

theorem sub_mono {L M : List T} (h : ∀ t, t ∈ L → t ∈ M) : ∀ {t : T}, sub L t → sub M t
  | .leaf _, _ => trivial
  | .node _ _ _, k => h _ k

theorem sub_app {L : List T} (M : List T) {t : T} (h : sub L t) : sub (L ++ M) t := sub_mono (fun _ k => List.mem_append_left _ k) h

theorem code_app {L : List T} (M : List T) : ∀ {t : T}, sub L t → code (L ++ M) t = code L t
  | .leaf _, _ => rfl
  | .node _ _ _, h => by simp only [code]; rw [pos_app M h]

theorem code_inj {L : List T} : ∀ {t s : T}, sub L t → sub L s → code L t = code L s → t = s
  | .leaf a, .leaf b, _, _, h => by cases a <;> cases b <;> simp [code] at h ⊢
  | .leaf a, .node _ _ _, _, _, h => by cases a <;> simp only [code] at h <;> simp at h <;> omega
  | .node _ _ _, .leaf b, _, _, h => by cases b <;> simp only [code] at h <;> simp at h <;> omega
  | .node _ _ _, .node _ _ _, ht, hs, h => pos_inj ht hs (by simp only [code] at h; omega)

theorem code_nonneg (L : List T) : ∀ t : T, 0 ≤ code L t
  | .leaf a => by cases a <;> simp [code]
  | .node _ _ _ => by simp only [code]; omega

theorem code_lt {L : List T} : ∀ {t : T}, sub L t → code L t < L.length + 2
  | .leaf a, _ => by cases a <;> simp [code] <;> omega
  | .node _ _ _, h => by simp only [code]; have := pos_lt h; omega

theorem code_leaf_lt (L : List T) (b : Bool) : code L (.leaf b) < 2 := by cases b <;> simp [code]
theorem code_node_ge (L : List T) (v : Nat) (l h : T) : 2 ≤ code L (.node v l h) := by simp only [code]; omega

noncomputable def nd (L : List T) : T → Nd
  | .leaf _ => (0, 0, 0)
  | .node v l h => ((v : Int), code L l, code L h)

def kids (L : List T) : T → Prop
  | .leaf _ => False
  | .node _ l h => sub L l ∧ sub L h

theorem kids_mono {L M : List T} (h : ∀ t, t ∈ L → t ∈ M) : ∀ {t : T}, kids L t → kids M t
  | .leaf _, k => k
  | .node _ _ _, k => ⟨sub_mono h k.1, sub_mono h k.2⟩

def ClR : List T → Prop
  | [] => True
  | t :: R => ClR R ∧ t ∉ R ∧ kids R t

/-- Each tree once, behind its parts. -/
def Cl (L : List T) : Prop := ClR L.reverse

theorem Cl_nil : Cl [] := trivial

theorem Cl_snoc {L : List T} {t : T} : Cl (L ++ [t]) ↔ Cl L ∧ t ∉ L ∧ kids L t := by
  have a : t ∉ L.reverse ↔ t ∉ L := by simp
  have b : kids L.reverse t ↔ kids L t := ⟨kids_mono (fun _ h => by simpa using h), kids_mono (fun _ h => by simpa using h)⟩
  simp only [Cl, List.reverse_append, List.reverse_cons, List.reverse_nil, List.nil_append, List.singleton_append, ClR, a, b]

theorem snoc_ind {α : Type} {P : List α → Prop} (h0 : P []) (h1 : ∀ L t, P L → P (L ++ [t])) (L : List α) : P L := by
  have : ∀ R : List α, P R.reverse := by
    intro R
    induction R with
    | nil => exact h0
    | cons t R ih => rw [List.reverse_cons]; exact h1 _ _ ih
  have := this L.reverse
  rwa [List.reverse_reverse] at this

theorem Cl_kids {L : List T} : Cl L → ∀ t, t ∈ L → kids L t := by
  induction L using snoc_ind with
  | h0 => intro _ t h; cases h
  | h1 L s ih =>
    intro h t ht
    obtain ⟨h1, _, h3⟩ := Cl_snoc.1 h
    rcases List.mem_append.1 ht with k | k
    · exact kids_mono (fun _ q => List.mem_append_left _ q) (ih h1 t k)
    · rw [List.mem_singleton.1 k]; exact kids_mono (fun _ q => List.mem_append_left _ q) h3

theorem Cl_pre {L M : List T} : Cl (L ++ M) → Cl L := by
  induction M using snoc_ind with
  | h0 => intro h; simpa using h
  | h1 M t ih => intro h; rw [← List.append_assoc] at h; exact ih (Cl_snoc.1 h).1

theorem nd_app {L : List T} (M : List T) : ∀ {t : T}, kids L t → nd (L ++ M) t = nd L t
  | .node _ _ _, h => by simp only [nd]; rw [code_app M h.1, code_app M h.2]

theorem nd_inj {L : List T} : ∀ {t s : T}, kids L t → kids L s → nd L t = nd L s → t = s
  | .node _ _ _, .node _ _ _, ht, hs, h => by
    simp only [nd, Prod.mk.injEq] at h
    rw [code_inj ht.1 hs.1 h.2.1, code_inj ht.2 hs.2 h.2.2]
    have := h.1
    congr 1
    omega

noncomputable def nds (L : List T) : List Nd := L.map (nd L)

theorem nds_len (L : List T) : (nds L).length = L.length := by simp [nds]

theorem nds_snoc {L : List T} {t : T} (h : Cl (L ++ [t])) : nds (L ++ [t]) = nds L ++ [nd L t] := by
  obtain ⟨h1, _, h3⟩ := Cl_snoc.1 h
  simp only [nds, List.map_append, List.map_cons, List.map_nil, nd_app [t] h3]
  congr 1
  apply List.map_congr_left
  intro s hs
  exact nd_app [t] (Cl_kids h1 s hs)

theorem nds_get {L : List T} {t : T} (h : t ∈ L) : (nds L)[pos L t]? = some (nd L t) := by
  simp [nds, pos_get h]

theorem nds_mem {L : List T} (h : Cl L) {t : T} (k : kids L t) : nd L t ∈ nds L ↔ t ∈ L := by
  constructor
  · intro m
    obtain ⟨s, hs, e⟩ := List.mem_map.1 m
    rw [← nd_inj (Cl_kids h s hs) k e]; exact hs
  · exact fun m => List.mem_map.2 ⟨t, m, rfl⟩

/-- The parts of a tree in the order in which a walk in depth completes them, behind M. -/
noncomputable def post : T → List T → List T
  | .leaf _, M => M
  | .node v l h, M => if .node v l h ∈ M then M else post h (post l M) ++ [.node v l h]

/-- What holds for a tree holds for its parts. -/
def Her (P : T → Prop) : Prop := ∀ v l h, P (.node v l h) → P l ∧ P h

theorem size_her (n : Nat) : Her (fun t => t.size ≤ n) := by
  intro v l h k
  simp only [T.size] at k
  constructor <;> omega

theorem post_spec : ∀ (t : T) (M : List T), Cl M → ∃ N, post t M = M ++ N ∧ Cl (M ++ N) ∧ sub (M ++ N) t ∧ (∀ P, Her P → P t → ∀ s, s ∈ N → P s) ∧ N.length ≤ t.size
  | .leaf _, M, h => ⟨[], by simp [post], by simpa using h, trivial, (fun _ _ _ _ k => by cases k), by simp⟩
  | .node v l h, M, hM => by
    unfold post
    by_cases hm : .node v l h ∈ M
    · rw [if_pos hm]
      exact ⟨[], by simp, by simpa using hM, by simpa [sub] using hm, (fun _ _ _ _ k => by cases k), by simp⟩
    · rw [if_neg hm]
      obtain ⟨N1, e1, c1, s1, p1, z1⟩ := post_spec l M hM
      rw [e1]
      obtain ⟨N2, e2, c2, s2, p2, z2⟩ := post_spec h (M ++ N1) c1
      rw [e2]
      refine ⟨N1 ++ N2 ++ [.node v l h], by simp, ?_, by simp [sub], ?_, by simp only [List.length_append, List.length_singleton, T.size]; omega⟩
      · have : M ++ (N1 ++ N2 ++ [T.node v l h]) = M ++ N1 ++ N2 ++ [T.node v l h] := by simp
        rw [this]
        refine Cl_snoc.2 ⟨c2, ?_, sub_app _ s1, s2⟩
        intro k
        rcases List.mem_append.1 k with k | k
        · rcases List.mem_append.1 k with k | k
          · exact hm k
          · have := p1 _ (size_her l.size) (Nat.le_refl _) _ k
            simp only [T.size] at this; omega
        · have := p2 _ (size_her h.size) (Nat.le_refl _) _ k
          simp only [T.size] at this; omega
      · intro P hP hp s hs
        rcases List.mem_append.1 hs with hs | hs
        · rcases List.mem_append.1 hs with hs | hs
          · exact p1 P hP (hP _ _ _ hp).1 s hs
          · exact p2 P hP (hP _ _ _ hp).2 s hs
        · rw [List.mem_singleton.1 hs]; exact hp

/-! Reduced and ordered trees over n variables. -/
def top (n : Nat) : T → Nat
  | .leaf _ => n
  | .node v _ _ => v

def Wf (n : Nat) : T → Prop
  | .leaf _ => True
  | .node v l h => v < n ∧ v < top n l ∧ v < top n h ∧ l ≠ h ∧ Wf n l ∧ Wf n h

theorem Wf_her (n : Nat) : Her (Wf n) := fun _ _ _ h => ⟨h.2.2.2.2.1, h.2.2.2.2.2⟩

def fn : T → (Nat → Bool) → Bool
  | .leaf b, _ => b
  | .node v l h, s => if s v then fn h s else fn l s

/-- Two assignments that agree from the top on give one value. -/
theorem fn_agree {n : Nat} {s r : Nat → Bool} : ∀ {t : T}, Wf n t → (∀ i, top n t ≤ i → i < n → s i = r i) → fn t s = fn t r
  | .leaf _, _, _ => rfl
  | .node v l h, w, e => by
    have hl : fn l s = fn l r := fn_agree w.2.2.2.2.1 (fun i hi hn => e i (by have := w.2.1; simp only [top]; omega) hn)
    have hh : fn h s = fn h r := fn_agree w.2.2.2.2.2 (fun i hi hn => e i (by have := w.2.2.1; simp only [top]; omega) hn)
    simp only [fn, e v (Nat.le_refl _) w.1, hl, hh]

def upd (s : Nat → Bool) (v : Nat) (b : Bool) : Nat → Bool := fun i => if i = v then b else s i

theorem fn_upd {n v : Nat} {t : T} (w : Wf n t) (h : v < top n t) (s : Nat → Bool) (b : Bool) : fn t (upd s v b) = fn t s :=
  fn_agree w (fun i hi _ => by have : i ≠ v := by omega
                               simp [upd, this])

theorem fn_lo {n v : Nat} {l h : T} (w : Wf n (.node v l h)) (s : Nat → Bool) : fn (.node v l h) (upd s v false) = fn l s := by
  simp [fn, upd]; exact fn_upd w.2.2.2.2.1 w.2.1 s false
theorem fn_hi {n v : Nat} {l h : T} (w : Wf n (.node v l h)) (s : Nat → Bool) : fn (.node v l h) (upd s v true) = fn h s := by
  simp [fn, upd]; exact fn_upd w.2.2.2.2.2 w.2.2.1 s true

/-- Reduced ordered trees of one function are equal. -/
theorem canon {n : Nat} : ∀ (k : Nat) (t s : T), t.size + s.size ≤ k → Wf n t → Wf n s → (∀ a, fn t a = fn s a) → t = s := by
  intro k
  induction k with
  | zero =>
    intro t s hk _ _ h
    cases t with
    | leaf a =>
      cases s with
      | leaf b => rw [show a = b from h (fun _ => false)]
      | node _ _ _ => simp [T.size] at hk
    | node _ _ _ => simp [T.size] at hk
  | succ k ih =>
    -- a tree that does not look at the top variable of another has not its function
    have key : ∀ (v : Nat) (l h s : T), (T.node v l h).size + s.size ≤ k + 1 → Wf n (.node v l h) → Wf n s → v < top n s → (∀ a, fn (.node v l h) a = fn s a) → False := by
      intro v l h s hk hw hs hv he
      have el : ∀ a, fn l a = fn s a := fun a => by rw [← fn_lo hw a, he, fn_upd hs hv]
      have eh : ∀ a, fn h a = fn s a := fun a => by rw [← fn_hi hw a, he, fn_upd hs hv]
      simp only [T.size] at hk
      have a := ih l s (by omega) hw.2.2.2.2.1 hs el
      have b := ih h s (by omega) hw.2.2.2.2.2 hs eh
      exact hw.2.2.2.1 (a.trans b.symm)
    intro t s hk ht hs he
    cases t with
    | leaf a =>
      cases s with
      | leaf b => rw [show a = b from he (fun _ => false)]
      | node v l h => exact (key v l h (.leaf a) (by rw [Nat.add_comm]; exact hk) hs ht hs.1 (fun x => (he x).symm)).elim
    | node v l h =>
      cases s with
      | leaf b => exact (key v l h (.leaf b) hk ht hs ht.1 he).elim
      | node v' l' h' =>
        rcases Nat.lt_trichotomy v v' with c | c | c
        · exact (key v l h _ hk ht hs c he).elim
        · subst c
          have el : ∀ a, fn l a = fn l' a := fun a => by rw [← fn_lo ht a, he, fn_lo hs a]
          have eh : ∀ a, fn h a = fn h' a := fun a => by rw [← fn_hi ht a, he, fn_hi hs a]
          simp only [T.size] at hk
          rw [ih l l' (by omega) ht.2.2.2.2.1 hs.2.2.2.2.1 el, ih h h' (by omega) ht.2.2.2.2.2 hs.2.2.2.2.2 eh]
        · exact (key v' l' h' _ (by rw [Nat.add_comm]; exact hk) hs ht c (fun x => (he x).symm)).elim

theorem Wf_size {n : Nat} : ∀ {t : T}, Wf n t → t.size + 1 ≤ 2 ^ (n - top n t)
  | .leaf _, _ => by simp [T.size, top]
  | .node v l h, w => by
    have a := Wf_size w.2.2.2.2.1
    have b := Wf_size w.2.2.2.2.2
    have p : 2 ^ (n - top n l) ≤ 2 ^ (n - v - 1) := Nat.pow_le_pow_right (by omega) (by have := w.2.1; omega)
    have q : 2 ^ (n - top n h) ≤ 2 ^ (n - v - 1) := Nat.pow_le_pow_right (by omega) (by have := w.2.2.1; omega)
    have e : 2 ^ (n - v) = 2 * 2 ^ (n - v - 1) := by
      have := w.1
      rw [show n - v = (n - v - 1) + 1 by omega, Nat.pow_succ]; simp [Nat.mul_comm]
    simp only [T.size, top]
    omega

/-! Lists of nodes that come from trees. -/
def lev (n : Nat) (ns : List Nd) (r : Int) : Int := if r < 2 then n else (ns[(r - 2).toNat]?.getD (0, 0, 0)).1

/-- May x stand behind the nodes ns? -/
def okNd (n : Nat) (ns : List Nd) (x : Nd) : Prop :=
  (0 ≤ x.1 ∧ x.1 < n) ∧ ((0 ≤ x.2.1 ∧ x.2.1 < ns.length + 2) ∧ (0 ≤ x.2.2 ∧ x.2.2 < ns.length + 2)) ∧ x.2.1 ≠ x.2.2 ∧ (x.1 < lev n ns x.2.1 ∧ x.1 < lev n ns x.2.2) ∧ x ∉ ns

def ShR (n : Nat) : List Nd → Prop
  | [] => True
  | x :: R => ShR n R ∧ okNd n R.reverse x

def Sh (n : Nat) (ns : List Nd) : Prop := ShR n ns.reverse

theorem Sh_nil (n : Nat) : Sh n [] := trivial
theorem Sh_snoc {n : Nat} {ns : List Nd} {x : Nd} : Sh n (ns ++ [x]) ↔ Sh n ns ∧ okNd n ns x := by
  simp [Sh, ShR]
theorem Sh_pre {n : Nat} {ns ms : List Nd} : Sh n (ns ++ ms) → Sh n ns := by
  induction ms using snoc_ind with
  | h0 => intro h; simpa using h
  | h1 ms t ih => intro h; rw [← List.append_assoc] at h; exact ih (Sh_snoc.1 h).1

theorem lev_app {n : Nat} {ns : List Nd} (ms : List Nd) {r : Int} (h : r < ns.length + 2) : lev n (ns ++ ms) r = lev n ns r := by
  unfold lev
  split
  · rfl
  · rw [List.getElem?_append_left (by omega)]

theorem lev_code {n : Nat} {L : List T} : ∀ {t : T}, sub L t → lev n (nds L) (code L t) = top n t
  | .leaf b, _ => by unfold lev; rw [if_pos (code_leaf_lt L b)]; rfl
  | .node v l h, k => by
    unfold lev
    have := code_node_ge L v l h
    rw [if_neg (by omega)]
    have e : (code L (.node v l h) - 2).toNat = pos L (.node v l h) := by simp only [code]; omega
    rw [e, nds_get k]; rfl

/-- Each number below comes from a tree. -/
theorem code_all {L : List T} (hc : Cl L) {r : Int} (h0 : 0 ≤ r) (h1 : r < L.length + 2) : ∃ t, sub L t ∧ code L t = r ∧ (2 ≤ r → t ∈ L) := by
  rcases Int.lt_or_le r 2 with h | h
  · rcases Int.lt_or_le r 1 with k | k
    · exact ⟨.leaf false, trivial, by simp [code]; omega, fun q => absurd q (by omega)⟩
    · exact ⟨.leaf true, trivial, by simp [code]; omega, fun q => absurd q (by omega)⟩
  · have hl : (r - 2).toNat < L.length := by omega
    refine ⟨L[(r - 2).toNat], ?_, ?_, fun _ => List.getElem_mem hl⟩
    · have m : L[(r - 2).toNat] ∈ L := List.getElem_mem hl
      have := Cl_kids hc _ m
      revert this m
      cases L[(r - 2).toNat] with
      | leaf _ => intro _ h; exact h.elim
      | node _ _ _ => intro m _; exact m
    · have m : L[(r - 2).toNat] ∈ L := List.getElem_mem hl
      have hk := Cl_kids hc _ m
      have hp : pos L L[(r - 2).toNat] = (r - 2).toNat := by
        -- each tree stands once
        have nodup : ∀ {M : List T}, Cl M → ∀ (i j : Nat) (x : T), M[i]? = some x → M[j]? = some x → i = j := by
          intro M
          induction M using snoc_ind with
          | h0 => intro _ i j x h; simp at h
          | h1 M s ih =>
            intro hM i j x hi hj
            obtain ⟨c1, c2, _⟩ := Cl_snoc.1 hM
            have get : ∀ i, (M ++ [s])[i]? = some x → (i < M.length ∧ M[i]? = some x) ∨ (i = M.length ∧ x = s) := by
              intro i h
              rcases Nat.lt_or_ge i M.length with q | q
              · left; rw [List.getElem?_append_left q] at h; exact ⟨q, h⟩
              · right
                rw [List.getElem?_append_right q] at h
                have : i - M.length = 0 := by
                  rcases Nat.eq_zero_or_pos (i - M.length) with z | z
                  · exact z
                  · rw [List.getElem?_eq_none (by simp; omega)] at h; cases h
                rw [this] at h
                simp at h
                exact ⟨by omega, h.symm⟩
            rcases get i hi with ⟨a, b⟩ | ⟨a, b⟩ <;> rcases get j hj with ⟨c, d⟩ | ⟨c, d⟩
            · exact ih c1 i j x b d
            · subst d; exact absurd (List.mem_of_getElem? b) c2
            · subst b; exact absurd (List.mem_of_getElem? d) c2
            · omega
        exact nodup hc _ _ _ (pos_get m) (List.getElem?_eq_getElem hl)
      revert hp hk
      cases L[(r - 2).toNat] with
      | leaf _ => intro h; exact h.elim
      | node _ _ _ => intro _ hp; simp only [code, hp]; omega

theorem Sh_trees {n : Nat} {ns : List Nd} : Sh n ns → ∃ L, Cl L ∧ ns = nds L ∧ ∀ t, t ∈ L → Wf n t := by
  induction ns using snoc_ind with
  | h0 => intro _; exact ⟨[], Cl_nil, rfl, fun _ h => by cases h⟩
  | h1 ns x ih =>
    intro h
    obtain ⟨h1, ⟨hv, hv'⟩, ⟨hl, hh⟩, hne, ⟨kl, kh⟩, hx⟩ := Sh_snoc.1 h
    obtain ⟨L, hc, e, hw⟩ := ih h1
    subst e
    rw [nds_len] at hl hh
    obtain ⟨l, sl, el, _⟩ := code_all hc hl.1 hl.2
    obtain ⟨t, st, et, _⟩ := code_all hc hh.1 hh.2
    have wf : ∀ {t : T}, sub L t → Wf n t := by
      intro t
      cases t with
      | leaf _ => intro _; trivial
      | node _ _ _ => exact fun k => hw _ k
    rw [← el, lev_code sl] at kl
    rw [← et, lev_code st] at kh
    have hk : kids L (.node x.1.toNat l t) := ⟨sl, st⟩
    have hn : nd L (.node x.1.toNat l t) = x := by
      simp only [nd, el, et]
      rw [Int.toNat_of_nonneg hv]
    have hm : T.node x.1.toNat l t ∉ L := fun m => hx (by rw [← hn]; exact (nds_mem hc hk).2 m)
    have hc' : Cl (L ++ [.node x.1.toNat l t]) := Cl_snoc.2 ⟨hc, hm, hk⟩
    refine ⟨L ++ [.node x.1.toNat l t], hc', ?_, ?_⟩
    · rw [nds_snoc hc', hn]
    · intro s hs
      rcases List.mem_append.1 hs with q | q
      · exact hw s q
      · rw [List.mem_singleton.1 q]
        refine ⟨by omega, by omega, by omega, ?_, wf sl, wf st⟩
        intro e
        apply hne
        rw [← el, ← et, e]

theorem trees_Sh {n : Nat} {L : List T} : Cl L → (∀ t, t ∈ L → Wf n t) → Sh n (nds L) := by
  induction L using snoc_ind with
  | h0 => intro _ _; exact Sh_nil n
  | h1 L t ih =>
    intro hc hw
    obtain ⟨c1, c2, c3⟩ := Cl_snoc.1 hc
    rw [nds_snoc hc]
    refine Sh_snoc.2 ⟨ih c1 (fun s hs => hw s (List.mem_append_left _ hs)), ?_⟩
    have w := hw t (by simp)
    have hx : nd L t ∉ nds L := fun m => c2 ((nds_mem c1 c3).1 m)
    revert w c3 hx
    cases t with
    | leaf _ => intro h; exact h.elim
    | node v l h =>
      intro c3 w hx
      have a := code_lt c3.1
      have b := code_lt c3.2
      have a0 := code_nonneg L l
      have b0 := code_nonneg L h
      refine ⟨⟨?_, ?_⟩, ⟨⟨?_, ?_⟩, ⟨?_, ?_⟩⟩, ?_, ⟨?_, ?_⟩, hx⟩
      · simp only [nd]; omega
      · have := w.1; simp only [nd]; omega
      · exact a0
      · rw [nds_len]; exact a
      · exact b0
      · rw [nds_len]; exact b
      · exact fun e => w.2.2.2.1 (code_inj c3.1 c3.2 e)
      · show (v : Int) < lev n (nds L) (code L l)
        rw [lev_code c3.1]; have := w.2.1; omega
      · show (v : Int) < lev n (nds L) (code L h)
        rw [lev_code c3.2]; have := w.2.2.1; omega

theorem nds_inj {L : List T} : ∀ {L' : List T}, Cl L → Cl L' → nds L = nds L' → L = L' := by
  induction L using snoc_ind with
  | h0 =>
    intro L' _ _ e
    have := congrArg List.length e
    rw [nds_len, nds_len] at this
    exact (List.length_eq_zero_iff.1 this.symm).symm
  | h1 L t ih =>
    intro L'
    induction L' using snoc_ind with
    | h0 =>
      intro _ _ e
      have := congrArg List.length e
      rw [nds_len, nds_len] at this
      simp at this
    | h1 L' t' _ =>
      intro h h' e
      rw [nds_snoc h, nds_snoc h'] at e
      obtain ⟨e1, e2⟩ := List.append_inj' e rfl
      obtain ⟨a, _, a3⟩ := Cl_snoc.1 h
      obtain ⟨b, _, b3⟩ := Cl_snoc.1 h'
      have := ih a b e1
      subst this
      simp only [List.cons.injEq, and_true] at e2
      rw [nd_inj a3 b3 e2]

/-- The nodes and the root of a diagram are the canonical ones of a tree. -/
def Cano (ns : List Nd) (root : Int) (t : T) : Prop := ns = nds (post t []) ∧ root = code (post t []) t

theorem Cano_iff {L : List T} (hc : Cl L) {t : T} (ht : sub L t) : (∃ t', Cano (nds L) (code L t) t') ↔ post t [] = L := by
  constructor
  · rintro ⟨t', e1, e2⟩
    obtain ⟨N, e, c, s, _⟩ := post_spec t' [] Cl_nil
    rw [List.nil_append] at e c s
    rw [e] at e1 e2
    have := nds_inj hc c e1
    subst this
    rw [← code_inj ht s e2] at e
    exact e
  · intro e
    exact ⟨t, by rw [Cano, e]; exact ⟨rfl, rfl⟩⟩

theorem code_get {L : List T} (hc : Cl L) {k : Nat} {y : T} (h : L[k]? = some y) : code L y = k + 2 := by
  have hk : k < L.length := by
    rcases Nat.lt_or_ge k L.length with q | q
    · exact q
    · rw [List.getElem?_eq_none q] at h; cases h
  obtain ⟨t, ht, e, hm⟩ := code_all hc (r := k + 2) (by omega) (by omega)
  have m := hm (by omega)
  have g := pos_get m
  have : pos L t = k := by
    have := Cl_kids hc t m
    revert this e
    cases t with
    | leaf _ => exact fun _ h => h.elim
    | node _ _ _ => intro e _; simp only [code] at e; omega
  rw [this, h] at g
  injection g with g
  rw [g]; exact e

end Go.Proofs.YtjlmeikcfdanmaaGreatDoor.BT

namespace Go.Proofs.YtjlmeikcfdanmaaGreatDoor.DE.V
open Go BT


theorem v92 (r : Row) : isoCall (call dp) 92 [.agg (eRow r)] = some (.b (rowOk r)) := by
  apply i92 _ _ rfl rfl
  simp [s92]
  repeat' split
  all_goals (simp_all [rowOk] <;> omega)

theorem v51 (r : Row) : isoCall (call dp) 51 [.agg (eRow r)] = some (.b (rowOk r)) := by
  apply i51 _ _ rfl rfl
  simp [s51]
  repeat' split
  all_goals (simp_all [rowOk] <;> omega)

theorem v12 (nl : Bool) (l : List Row) : isoCall (call dp) 12 [eRows nl l] = some (.b (decide (l.length ≤ 7))) := by
  apply i12 _ _ (by simp [noRefL]) rfl
  simp [s12]
  split <;> omega

theorem v11 (nl nl' : Bool) (ord : List Row) (ns : List Nd) (root : Int) : isoCall (call dp) 11 [eB nl nl' ord ns root] = some (.b (decide (ord.length ≤ 7) && decide (ns.length ≤ 40))) := by
  apply i11 _ _ (by simp [noRefL]) rfl
  simp [s11, v12]
  repeat' split
  all_goals (simp_all <;> omega)

theorem v77 (nl nl' : Bool) (ord : List Row) (ns : List Nd) (root r : Int) (h0 : in64 r) (h : r < ns.length + 2) : isoCall (call dp) 77 [eB nl nl' ord ns root, .i .i64 r] = some (.i .i64 (lev ord.length ns r)) := by
  apply i77 _ _ _ (by simp [noRefL, noRef]) rfl
  simp [s77]
  split
  · simp [lev, *]
  · obtain ⟨x, hx⟩ : ∃ x, ns[(r - 2).toNat]? = some x := ⟨_, List.getElem?_eq_getElem (by omega)⟩
    rw [wrap64 (n := r - 2) ⟨by have := h0.1; have := h0.2; omega, by have := h0.2; omega⟩, iaD_nds' _ (by omega) hx]
    simp [lev, *]

theorem v56 (nl nl' : Bool) (ord : List Row) (ns : List Nd) (root r : Int) (h0 : in64 r) (h : r < ns.length + 2) : isoCall (call dp) 56 [eB nl nl' ord ns root, .i .i64 r] = some (.i .i64 (lev ord.length ns r)) := by
  apply i56 _ _ _ (by simp [noRefL, noRef]) rfl
  simp [s56]
  split
  · simp [lev, *]
  · obtain ⟨x, hx⟩ : ∃ x, ns[(r - 2).toNat]? = some x := ⟨_, List.getElem?_eq_getElem (by omega)⟩
    rw [wrap64 (n := r - 2) ⟨by have := h0.1; have := h0.2; omega, by have := h0.2; omega⟩, iaD_nds' _ (by omega) hx]
    simp [lev, *]

/-- Two lists that agree up to k, and at k. -/
theorem take_next {α : Type} {l m : List α} {k : Nat} {x : α} (h : l.take k = m.take k) (hl : l[k]? = some x) (hm : m[k]? = some x) : l.take (k + 1) = m.take (k + 1) := by
  rw [List.take_add_one, List.take_add_one, h, hl, hm]

theorem take_full {α : Type} {l m : List α} {k : Nat} (h : l.take k = m.take k) (hl : l.length ≤ k) (hm : m.length ≤ k) : l = m := by
  rwa [List.take_of_length_le hl, List.take_of_length_le hm] at h

/-- A length that a machine holds. -/
abbrev Bd (n : Nat) : Prop := n < 4611686018427387904
theorem Bd.lt {n m : Nat} (h : Bd n) (k : m ≤ n) : Bd m := Nat.lt_of_le_of_lt k h
theorem wrapS {k : Nat} (h : Bd k) : IntKind.wrap .i64 ((k : Int) + 1) = ((k + 1 : Nat) : Int) := by
  rw [wrap64 ⟨by omega, by unfold Bd at h; omega⟩]; omega

theorem v73 (nl nl' : Bool) (l m : List Nd) (hb : Bd m.length) : isoCall (call dp) 73 [eNds nl l, eNds nl' m] = some (.b (decide (l = m))) := by
  apply i73 _ _ _ (by simp [noRefL]) rfl
  simp [s73]
  by_cases hl : l.length = m.length
  · simp only [hl, if_true]
    let J : Nat → List D → Store → Prop := fun q fr S => ∃ k a4 a14, k + q = m.length ∧ l.take k = m.take k ∧ S = [] ∧ fr = mkf 26 [(0, eNds nl l), (1, eNds nl' m), (4, a4), (12, .i .i64 m.length), (13, .i .i64 k), (14, a14)]
    refine W_loop J ?_ m.length _ _ ⟨0, _, _, by simp, by simp, rfl, rfl⟩
    rintro q fr S ⟨k, a4, a14, hk, he, rfl, rfl⟩
    rw [← wp_W, e73_0]
    simp [s73_0]
    split
    · rename_i h
      obtain ⟨x, hx⟩ : ∃ x, l[k]? = some x := ⟨_, List.getElem?_eq_getElem (by omega)⟩
      obtain ⟨y, hy⟩ : ∃ x, m[k]? = some x := ⟨_, List.getElem?_eq_getElem (by omega)⟩
      simp [iaD_nds _ hx, iaD_nds _ hy]
      by_cases hxy : x = y
      · subst hxy
        simp [wrapS (hb.lt (Nat.le_of_lt h))]
        exact ⟨q - 1, by omega, k + 1, _, _, by omega, take_next he hx hy, rfl, rfl⟩
      · simp [hxy]
        exact fun e => hxy (by rw [e, hy] at hx; injection hx with hx; exact hx.symm)
    · simp [e73_r0, s73_r0]
      exact take_full he (by omega) (by omega)
  · rw [if_neg (by omega)]
    exact fun h => hl (by rw [h])

theorem v52 (nl nl' : Bool) (l m : List Row) (hb : Bd m.length) : isoCall (call dp) 52 [eRows nl l, eRows nl' m] = some (.b (decide (l = m))) := by
  apply i52 _ _ _ (by simp [noRefL]) rfl
  simp [s52]
  by_cases hl : l.length = m.length
  · simp only [hl, if_true]
    let J : Nat → List D → Store → Prop := fun q fr S => ∃ k a4 a14, k + q = m.length ∧ l.take k = m.take k ∧ S = [] ∧ fr = mkf 26 [(0, eRows nl l), (1, eRows nl' m), (4, a4), (5, .i .i64 k), (14, a14)]
    refine W_loop J ?_ m.length _ _ ⟨0, _, _, by simp, by simp, rfl, rfl⟩
    rintro q fr S ⟨k, a4, a14, hk, he, rfl, rfl⟩
    rw [← wp_W, e52_0]
    simp [s52_0, hl]
    split
    · rename_i h
      obtain ⟨x, hx⟩ : ∃ x, l[k]? = some x := ⟨_, List.getElem?_eq_getElem (by omega)⟩
      obtain ⟨y, hy⟩ : ∃ x, m[k]? = some x := ⟨_, List.getElem?_eq_getElem (by omega)⟩
      simp [iaD_rows _ hx, iaD_rows _ hy]
      by_cases hxy : x = y
      · subst hxy
        simp [wrapS (hb.lt (Nat.le_of_lt h))]
        exact ⟨q - 1, by omega, k + 1, _, _, by omega, take_next he hx hy, rfl, rfl⟩
      · simp [hxy]
        exact fun e => hxy (by rw [e, hy] at hx; injection hx with hx; exact hx.symm)
    · simp [e52_r0, s52_r0]
      exact take_full he (by omega) (by omega)
  · rw [if_neg (by omega)]
    exact fun h => hl (by rw [h])

theorem v17 (n1 n1' n2 n2' : Bool) (o1 o2 : List Row) (l m : List Nd) (r1 r2 : Int) (hb : Bd m.length) (hb' : Bd o2.length) :
    isoCall (call dp) 17 [eB n1 n1' o1 l r1, eB n2 n2' o2 m r2] = some (.b (decide (o1 = o2 ∧ l = m ∧ r1 = r2))) := by
  apply i17 _ _ _ (by simp [noRefL]) rfl
  simp [s17, v52 _ _ _ _ hb']
  by_cases hr : r1 = r2
  · simp only [hr, if_true]
    by_cases ho : o1 = o2
    · simp only [ho, if_true]
      by_cases hl : l.length = m.length
      · simp only [hl, if_true]
        let J : Nat → List D → Store → Prop := fun q fr S => ∃ k a4 a14, k + q = m.length ∧ l.take k = m.take k ∧ sget S 0 = some (.box [eRows n1 o2, eNds n1' l, .i .i64 r2]) ∧ sget S 1 = some (.box [eRows n2 o2, eNds n2' m, .i .i64 r2]) ∧ fr = mkf 46 [(2, .bx 0 0), (3, .bx 1 0), (4, a4), (5, .i .i64 k), (32, a14)]
        refine W_loop J ?_ m.length _ _ ⟨0, _, _, by simp, by simp, rfl, rfl, rfl⟩
        rintro q fr S ⟨k, a4, a14, hk, he, hS0, hS1, rfl⟩
        rw [← wp_W, e17_0]
        simp [s17_0, hl, hS0, hS1]
        split
        · rename_i h
          obtain ⟨x, hx⟩ : ∃ x, l[k]? = some x := ⟨_, List.getElem?_eq_getElem (by omega)⟩
          obtain ⟨y, hy⟩ : ∃ x, m[k]? = some x := ⟨_, List.getElem?_eq_getElem (by omega)⟩
          simp [iaD_nds _ hx, iaD_nds _ hy, hS0, hS1]
          by_cases hxy : x = y
          · subst hxy
            simp [wrapS (hb.lt (Nat.le_of_lt h))]
            exact ⟨q - 1, by omega, k + 1, _, _, by omega, take_next he hx hy, hS0, hS1, rfl⟩
          · simp [hxy]
            exact fun e => hxy (by rw [e, hy] at hx; injection hx with hx; exact hx.symm)
        · simp [e17_r0, s17_r0]
          exact take_full he (by omega) (by omega)
      · rw [if_neg (by omega)]
        simp
        exact fun h => hl (by rw [h])
    · simp [ho]
  · simp [hr]

theorem v49 (nl : Bool) (l : List Row) (h : nl = true → l = []) (hb : l.length ≤ maxLenD) : isoCall (call dp) 49 [eRows nl l] = some (eRows nl l) := by
  apply i49 _ _ (by simp [noRefL]) (by simp)
  simp [s49]
  split
  · rename_i hn
    subst hn
    rw [h rfl]; rfl
  · rename_i hn
    have hn : nl = false := by simpa using hn
    subst hn
    have h1 : (l.map eRow).length ≤ maxLenD := by simpa using hb
    simp only [eRows, cellsV_nil, OX_some, bslO_nil, app_cap0 _ h1]
    split
    · rename_i e; rw [e]; rfl
    · rfl

def OrdOk (l : List Row) : Prop := (∀ r, r ∈ l → rowOk r = true) ∧ l.Nodup

open Classical in
theorem v48 (nl : Bool) (l : List Row) (hb : Bd l.length) : isoCall (call dp) 48 [eRows nl l] = some (.b (decide (OrdOk l ∧ l.length ≤ 4096))) := by
  apply i48 _ _ (by simp [noRefL]) rfl
  simp [s48]
  let J : Nat → List D → Store → Prop := fun q fr S => ∃ k a2 a10, k + q = l.length ∧ OrdOk (l.take k) ∧ sget S 0 = some (.map (eMap (fun r : Row => .agg (eRow r)) D.b ((l.take k).map fun r => (r, true)))) ∧ fr = mkf 27 [(0, eRows nl l), (2, a2), (3, .mp 0), (7, eRows nl l), (8, .i .i64 l.length), (9, .i .i64 k), (10, a10)]
  refine W_loop J ?_ l.length _ _ ⟨0, _, _, by simp, by simp [OrdOk], rfl, rfl⟩
  rintro q fr S ⟨k, a2, a10, hk, ho, hS, rfl⟩
  rw [← wp_W, e48_0]
  have hlt := sget_lt hS
  have hne : S ≠ [] := by intro e; simp [e] at hlt
  simp [s48_0]
  split
  · rename_i h
    obtain ⟨x, hx⟩ : ∃ x, l[k]? = some x := ⟨_, List.getElem?_eq_getElem (by omega)⟩
    simp [iaD_rows _ hx, v92, hne, hS]
    have hS' : sget (Ent.box (eRow x) :: S) 0 = _ := sget_push hS
    have hin : x ∈ l.take k ∨ assoc x ((l.take k).map fun r => (r, true)) = none := by
      by_cases hm : x ∈ l.take k
      · exact .inl hm
      · right
        rw [assoc_none]
        intro p hp e
        obtain ⟨y, hy, rfl⟩ := List.mem_map.1 hp
        exact hm (e ▸ hy)
    have ht : l.take (k + 1) = l.take k ++ [x] := by rw [List.take_add_one, hx]; rfl
    have hin' : ¬ OrdOk (l.take (k + 1)) → ¬ OrdOk l := by
      intro h1 h2
      exact h1 ⟨fun r hr => h2.1 r (List.mem_of_mem_take hr), h2.2.sublist (List.take_sublist _ _)⟩
    split
    · rename_i hr
      rcases hin with hm | ha
      · have hx' : assoc x ((l.take k).map fun r => (r, true)) = some true := by
          cases ha : assoc x ((l.take k).map fun r => (r, true)) with
          | none => exact absurd rfl (assoc_none.1 ha (x, true) (List.mem_map.2 ⟨x, hm, rfl⟩))
          | some b =>
            have : ∀ (m : List Row) b, assoc x (m.map fun r => (r, true)) = some b → b = true := by
              intro m
              induction m with
              | nil => intro b h; cases h
              | cons y m ih =>
                intro b h
                simp only [List.map_cons, assoc] at h
                split at h
                · injection h with h; exact h.symm
                · exact ih b h
            rw [this _ b ha]
        rw [lkD'_mp keyE_row (a := x) (isKey_row x) hS', hx']
        simp
        intro ho'
        refine absurd ho' (hin' ?_)
        rw [ht]
        intro h1
        have := h1.2
        rw [List.nodup_append] at this
        exact this.2.2 x hm x (by simp) rfl
      · rw [lkD'_mp keyE_row (a := x) (isKey_row x) hS', ha]
        simp
        rw [muD'_new keyE_row (a := x) (b := true) (isKey_row x) hS' ha]
        simp only [OX_some, bin_add, wrapS (hb.lt (Nat.le_of_lt h)), Qseq_normal]
        have hnm : x ∉ l.take k := fun hm => (assoc_none.1 ha (x, true) (List.mem_map.2 ⟨x, hm, rfl⟩)) rfl
        refine ⟨q - 1, by omega, k + 1, _, _, by omega, ?_, ?_, rfl⟩
        · rw [ht]
          refine ⟨?_, ?_⟩
          · intro r hr'
            rcases List.mem_append.1 hr' with hr' | hr'
            · exact ho.1 r hr'
            · rw [List.mem_singleton.1 hr']; exact hr
          · rw [List.nodup_append]
            refine ⟨ho.2, by simp, ?_⟩
            intro a ha' b hb' e
            rw [List.mem_singleton.1 hb'] at e
            exact hnm (e ▸ ha')
        · rw [ht, List.map_append]
          exact sget_sset _ (by simp)
    · rename_i hr
      intro ho'
      exact absurd (ho'.1 x (List.mem_of_getElem? hx)) hr
  · have : l.take k = l := List.take_of_length_le (by omega)
    rw [this] at ho
    simp [e48_r0, s48_r0, ho]
    split <;> omega

theorem nodup_snoc {α : Type} {l : List α} {x : α} : (l ++ [x]).Nodup ↔ l.Nodup ∧ x ∉ l := by
  rw [List.nodup_append]
  constructor
  · exact fun h => ⟨h.1, fun k => h.2.2 x k x (by simp) rfl⟩
  · exact fun h => ⟨h.1, by simp, fun a ha b hb e => h.2 (by rw [List.mem_singleton.1 hb] at e; exact e ▸ ha)⟩

theorem OrdOk_snoc {l : List Row} {x : Row} : OrdOk (l ++ [x]) ↔ OrdOk l ∧ rowOk x = true ∧ x ∉ l := by
  simp only [OrdOk, nodup_snoc, List.mem_append, List.mem_singleton]
  constructor
  · exact fun h => ⟨⟨fun r hr => h.1 r (.inl hr), h.2.1⟩, h.1 x (.inr rfl), h.2.2⟩
  · exact fun h => ⟨fun r hr => hr.elim (h.1.1 r) (fun e => e ▸ h.2.1), h.1.2, h.2.2⟩

theorem OrdOk_take {l : List Row} (k : Nat) (h : OrdOk l) : OrdOk (l.take k) :=
  ⟨fun r hr => h.1 r (List.mem_of_mem_take hr), h.2.sublist (List.take_sublist _ _)⟩

theorem take_snoc {α : Type} {l : List α} {k : Nat} {x : α} (hx : l[k]? = some x) : l.take (k + 1) = l.take k ++ [x] := by rw [List.take_add_one, hx]; rfl

open Classical in
theorem v16 (nl : Bool) (l : List Row) (hb : Bd l.length) : isoCall (call dp) 16 [eRows nl l] = some (.b (decide (OrdOk l ∧ l.length ≤ 4096))) := by
  apply i16 _ _ (by simp [noRefL]) rfl
  simp [s16]
  let J : Nat → List D → Store → Prop := fun q fr S => ∃ k a2 a4 a8 a19, k + q = l.length ∧ OrdOk (l.take k) ∧ fr = mkf 34 [(0, eRows nl l), (2, a2), (3, .i .i64 k), (4, a4), (8, a8), (19, a19)]
  refine W_loop J ?_ l.length _ _ ⟨0, _, _, _, _, by simp, by simp [OrdOk], rfl⟩
  rintro q fr S ⟨k, a2, a4, a8, a19, hk, ho, rfl⟩
  rw [← wp_W, e16_1]
  simp [s16_1]
  split
  · rename_i h
    obtain ⟨x, hx⟩ : ∃ x, l[k]? = some x := ⟨_, List.getElem?_eq_getElem (by omega)⟩
    have ht := take_snoc hx
    simp [iaD_rows _ hx, v51]
    split
    · rename_i hr
      let J2 : Nat → List D → Store → Prop := fun q fr S => ∃ j a2 a19, j + q = k ∧ x ∉ l.take j ∧ fr = mkf 34 [(0, eRows nl l), (2, a2), (3, .i .i64 k), (4, .i .i64 j), (8, .top), (19, a19)]
      refine W_loop J2 ?_ k _ _ ⟨0, _, _, by simp, by simp, rfl⟩
      rintro q' fr S ⟨j, a2, a19, hj, hn, rfl⟩
      rw [← wp_W, e16_0]
      simp [s16_0]
      split
      · rename_i hjk
        obtain ⟨y, hy⟩ : ∃ x, l[j]? = some x := ⟨_, List.getElem?_eq_getElem (by omega)⟩
        simp [iaD_rows _ hx, iaD_rows _ hy]
        split
        · rename_i e
          intro ho'
          have := OrdOk_take (k + 1) ho'
          rw [ht, OrdOk_snoc] at this
          refine absurd ?_ this.2.2
          have hy' : (l.take k)[j]? = some y := by rw [List.getElem?_take, if_pos hjk]; exact hy
          exact e ▸ List.mem_of_getElem? hy'
        · rename_i e
          simp [wrapS (hb.lt (show j ≤ l.length by omega))]
          refine ⟨q' - 1, by omega, j + 1, _, _, by omega, ?_, rfl⟩
          rw [take_snoc hy]
          simp [hn]
          exact fun h => e h.symm
      · simp [e16_r0, s16_r0, wrapS (hb.lt (Nat.le_of_lt h))]
        refine ⟨q - 1, by omega, k + 1, _, _, _, _, by omega, ?_, rfl⟩
        have : j = k := by omega
        subst this
        rw [ht, OrdOk_snoc]
        exact ⟨ho, hr, hn⟩
    · rename_i hr
      intro ho'
      exact absurd (ho'.1 x (List.mem_of_getElem? hx)) hr
  · have : l.take k = l := List.take_of_length_le (by omega)
    rw [this] at ho
    simp [e16_r1, s16_r1, ho]
    split <;> omega

end Go.Proofs.YtjlmeikcfdanmaaGreatDoor.DE.V

namespace Go.Proofs.YtjlmeikcfdanmaaGreatDoor.DE.V
open Go BT


theorem Sh_take {n : Nat} {ns : List Nd} (k : Nat) (h : Sh n ns) : Sh n (ns.take k) := Sh_pre (ms := ns.drop k) (by rwa [List.take_append_drop])

theorem lev_take {n k : Nat} {ns : List Nd} {r : Int} (h : r < k + 2) (hk : k ≤ ns.length) : lev n (ns.take k) r = lev n ns r := by
  have := lev_app (n := n) (ns := ns.take k) (ns.drop k) (r := r) (by rw [List.length_take]; omega)
  rw [List.take_append_drop] at this
  exact this.symm

theorem assoc_true {α : Type} [DecidableEq α] (x : α) : ∀ l : List α, assoc x (l.map fun r => (r, true)) = if x ∈ l then some true else none
  | [] => by simp [assoc]
  | y :: l => by
    simp only [List.map_cons, assoc, assoc_true x l, List.mem_cons]
    by_cases h : x = y <;> simp [h]

/-- The reading of a set of what was seen. -/
theorem seenD {α : Type} [DecidableEq α] {kk : KK} {ek : α → D} (h : KeyE kk ek) {a : α} (hk : isKey kk (ek a) = true) {S : Store} {id : Nat} {l : List α} (hS : sget S id = some (.map (eMap ek D.b (l.map fun r => (r, true))))) :
    lkD' kk false (.b false) S (.mp id) (ek a) = some (.b (decide (a ∈ l))) := by
  rw [lkD'_mp h hk hS, assoc_true]
  split <;> simp [*]

theorem seenU {α : Type} [DecidableEq α] {kk : KK} {ek : α → D} (h : KeyE kk ek) {a : α} (hk : isKey kk (ek a) = true) {S : Store} {id : Nat} {l : List α} (hS : sget S id = some (.map (eMap ek D.b (l.map fun r => (r, true))))) (ha : a ∉ l) :
    muD' kk S (.mp id) (ek a) (.b true) = some (sset S id (.map (eMap ek D.b ((l ++ [a]).map fun r => (r, true))))) := by
  rw [muD'_new h hk hS (ev := D.b) (b := true) (by rw [assoc_true, if_neg ha])]
  simp

open Classical in
theorem v71 (nl nl' : Bool) (ord : List Row) (ns : List Nd) (root : Int) (hb : Bd (ns.length + 2)) :
    isoCall (call dp) 71 [eB nl nl' ord ns root] = some (.b (decide (Sh ord.length ns ∧ 0 ≤ root ∧ root < ns.length + 2))) := by
  obtain ⟨c, hc⟩ : ∃ c, c = decide (Sh ord.length ns ∧ 0 ≤ root ∧ root < ns.length + 2) := ⟨_, rfl⟩
  rw [← hc]
  apply i71 _ _ (by simp [noRefL]) rfl
  simp [s71]
  let J : Nat → List D → Store → Prop := fun q fr S => ∃ k a2 a12, k + q = ns.length ∧ Sh ord.length (ns.take k) ∧ sget S 0 = some (.box [eRows nl ord, eNds nl' ns, .i .i64 root]) ∧ sget S 1 = some (.map (eMap (fun r : Nd => .agg (eNd r)) D.b ((ns.take k).map fun r => (r, true)))) ∧
    fr = mkf 98 [(1, .bx 0 0), (2, a2), (3, .mp 1), (9, eNds nl' ns), (10, .i .i64 ns.length), (11, .i .i64 k), (12, a12)]
  refine W_loop J ?_ ns.length _ _ ⟨0, _, _, by simp, by simp [Sh_nil], by simp, by simp [eMap], rfl⟩
  rintro q fr S ⟨k, a2, a12, hk, ho, hS0, hS1, rfl⟩
  rw [← wp_W, e71_0]
  simp [s71_0]
  split
  · rename_i h
    obtain ⟨x, hx⟩ : ∃ x, ns[k]? = some x := ⟨_, List.getElem?_eq_getElem (by omega)⟩
    have ht := take_snoc hx
    have hlt := sget_lt hS1
    have hne : S ≠ [] := by intro e; simp [e] at hlt
    have h1ne : ¬ 1 = S.length := by omega
    have h0ne : ¬ 0 = S.length := by omega
    have w2 : IntKind.i64.wrap ((k : Int) + 2) = k + 2 := wrap64 ⟨by omega, by unfold Bd at hb; omega⟩
    have hok : Sh ord.length ns → okNd ord.length (ns.take k) x := fun hs => (Sh_snoc.1 (ht ▸ Sh_take (k + 1) hs)).2
    have hok' : okNd ord.length (ns.take k) x → Sh ord.length (ns.take (k + 1)) := fun h => by rw [ht]; exact Sh_snoc.2 ⟨ho, h⟩
    have hl : (ns.take k).length = k := by rw [List.length_take]; omega
    have hS1' : sget (Ent.box (eNd x) :: S) 1 = _ := sget_push hS1
    have hS0' : sget (Ent.box (eNd x) :: S) 0 = _ := sget_push hS0
    have hseen := seenD keyE_nd (isKey_nd x) hS1'
    by_cases hin : 0 ≤ x.2.1 ∧ 0 ≤ x.2.2 ∧ x.2.1 < k + 2 ∧ x.2.2 < k + 2
    · obtain ⟨i1, i2, i3, i4⟩ := hin
      have e1 := v77 nl nl' ord ns root x.2.1 ⟨by omega, by unfold Bd at hb; omega⟩ (by omega)
      have e2 := v77 nl nl' ord ns root x.2.2 ⟨by omega, by unfold Bd at hb; omega⟩ (by omega)
      rw [← lev_take i3 (by omega)] at e1
      rw [← lev_take i4 (by omega)] at e2
      simp only [eB] at e1 e2
      by_cases hx' : okNd ord.length (ns.take k) x
      · obtain ⟨⟨c1, c2⟩, -, c3, ⟨c4, c5⟩, c6⟩ := hx'
        have hu := seenU keyE_nd (isKey_nd x) hS1' c6
        have f1 : ¬ x.1 < 0 := by omega
        have f2 : ¬ (ord.length : Int) ≤ x.1 := by omega
        have f4 : ¬ lev ord.length (ns.take k) x.2.1 ≤ x.1 := by omega
        have f5 : ¬ lev ord.length (ns.take k) x.2.2 ≤ x.1 := by omega
        simp [-sset_cons, iaD_nds _ hx, w2, hS0, h0ne, i1, i2, i3, i4, e1, e2, f1, f2, c3, f4, f5, c6, hseen, hu, wrapS (show Bd k by unfold Bd at *; omega)]
        refine ⟨q - 1, by omega, k + 1, _, _, by omega, hok' ⟨⟨c1, c2⟩, by rw [hl]; exact ⟨⟨i1, i3⟩, ⟨i2, i4⟩⟩, c3, ⟨c4, c5⟩, c6⟩, ?_, ?_, rfl⟩
        · rw [sget_sset_ne _ (by omega)]; exact hS0'
        · have := sget_sset (Ent.map (eMap (fun r : Nd => .agg (eNd r)) D.b ((ns.take k ++ [x]).map fun r => (r, true)))) (sget_lt hS1')
          rw [ht]
          simpa [-sset_cons] using this
      · have hno : c = false := by rw [hc]; exact decide_eq_false fun hs => hx' (hok hs.1)
        simp [iaD_nds _ hx, w2, hS0, h0ne, i1, i2, i3, i4, e1, e2, hseen, hno]
        intro f1 f2 f3 f4 f5 f6
        exact absurd ⟨⟨f1, f2⟩, by rw [hl]; exact ⟨⟨i1, i3⟩, ⟨i2, i4⟩⟩, f3, ⟨f5, f6⟩, f4⟩ hx'
    · have hno : c = false := by rw [hc]; exact decide_eq_false fun hs => hin (by have := (hok hs.1).2.1; rw [hl] at this; omega)
      simp [iaD_nds _ hx, w2, hS0, h0ne, hseen, hno]
      intro i1 i2 i3 i4
      exact absurd ⟨i1, i2, i3, i4⟩ hin
  · have : ns.take k = ns := List.take_of_length_le (by omega)
    rw [this] at ho
    simp [e71_r0, s71_r0, ho, hS0]
    rw [wrap64 ⟨by omega, by unfold Bd at hb; omega⟩]
    simp [ho] at hc
    by_cases h1 : 0 ≤ root
    · by_cases h2 : root < ns.length + 2
      · simp [h1, h2, hc]
      · simp [h1, h2, hc]
    · simp [h1, hc]

/-! The walk in depth. -/
def Pres (S S' : Store) : Prop := ∀ id cs, sget S id = some (.box cs) → sget S' id = some (.box cs)
theorem Pres.refl (S : Store) : Pres S S := fun _ _ h => h
theorem Pres.trans {S S' S'' : Store} (h : Pres S S') (k : Pres S' S'') : Pres S S'' := fun id cs e => k id cs (h id cs e)
theorem Pres.push (e : Ent) (S : Store) : Pres S (e :: S) := fun _ _ h => sget_push h
theorem Pres.tok {S : Store} {t : Nat} {b : Bool} (c : Bool) (h : sget S t = some (.tok b)) : Pres S (sset S t (.tok c)) := by
  intro id cs e
  rw [sget_sset_ne]
  · exact e
  · rintro rfl; rw [h] at e; cases e

def eInts (nl : Bool) (l : List Int) (o : Own) : D := .sl 1 nl (l.map fun n => [.i .i64 n]) o

/-- A slice that may be appended to: nil, or with its holder alive. -/
def Liv (S : Store) (nl : Bool) (n : Nat) (o : Own) : Prop := (nl = true ∧ n = 0 ∧ o = .ro) ∨ (nl = false ∧ ∃ t, o = .tok t ∧ sget S t = some (.tok true))

theorem Liv.push {S : Store} {nl : Bool} {n : Nat} {o : Own} (e : Ent) (h : Liv S nl n o) : Liv (e :: S) nl n o := by
  rcases h with h | ⟨h, t, ho, ht⟩
  · exact .inl h
  · exact .inr ⟨h, t, ho, sget_push ht⟩

theorem app_liv {k : Nat} {nl n' : Bool} {xs : List (List D)} {ys : List (List D)} {o o' : Own} {S : Store} (h : Liv S nl xs.length o) (hl : xs.length + ys.length ≤ maxLenD) (hy : ys ≠ []) :
    ∃ t S', appD k false (.sl k nl xs o) (.sl k n' ys o') S = some (.sl k false (xs ++ ys) (.tok t), S') ∧ sget S' t = some (.tok true) ∧ Pres S S' ∧ (∀ id es, sget S id = some (.map es) → sget S' id = some (.map es)) ∧ S'.length = S.length + 1 ∧ t = S.length ∧ ∀ id e, sget S id = some e → (∀ t, o = .tok t → id ≠ t) → sget S' id = some e := by
  rcases h with ⟨h1, h2, h3⟩ | ⟨h1, t, ho, ht⟩
  · subst h1 h3
    have : xs = [] := List.length_eq_zero_iff.1 h2
    subst this
    refine ⟨S.length, .tok true :: S, ?_, by simp, Pres.push _ _, fun _ _ e => sget_push e, by simp, rfl, fun _ _ e _ => sget_push e⟩
    rw [app_nil (o := .ro) S (by simpa using hl) (by intro t e; cases e), if_neg hy]
    rfl
  · subst h1 ho
    refine ⟨S.length, .tok true :: sset S t (.tok false), app_tok S hl ht, ?_, ?_, ?_, by simp [sset_len], rfl, fun id e he hne => sget_push (by rw [sget_sset_ne _ (hne t rfl)]; exact he)⟩
    · have := sget_top (Ent.tok true) (sset S t (.tok false))
      rwa [sset_len] at this
    · exact (Pres.tok false ht).trans (Pres.push _ _)
    · intro id es e
      apply sget_push
      rw [sget_sset_ne]
      · exact e
      · rintro rfl; rw [ht] at e; cases e

theorem Her_sub {L : List T} (h : Cl L) : Her (sub L) := fun _ _ _ k => Cl_kids h _ k

theorem Cl_nodup {L : List T} : Cl L → L.Nodup := by
  induction L using snoc_ind with
  | h0 => intro _; simp
  | h1 L t ih => intro h; obtain ⟨a, b, _⟩ := Cl_snoc.1 h; exact nodup_snoc.2 ⟨ih a, b⟩

theorem nodup_len {α : Type} [DecidableEq α] : ∀ {M L : List α}, M.Nodup → (∀ x, x ∈ M → x ∈ L) → M.length ≤ L.length
  | [], _, _, _ => Nat.zero_le _
  | x :: M, L, hn, hs => by
    have hx : x ∈ L := hs x (by simp)
    have hn' := List.nodup_cons.1 hn
    have := nodup_len (M := M) (L := L.erase x) hn'.2 (fun y hy => (List.mem_erase_of_ne (by rintro rfl; exact hn'.1 hy)).2 (hs y (List.mem_cons_of_mem _ hy)))
    rw [List.length_erase_of_mem hx] at this
    have := List.length_pos_of_mem hx
    simp only [List.length_cons]
    omega

/-- What the walk holds: behind M, within L. -/
theorem post_in {L M : List T} {t : T} (hL : Cl L) (hM : Cl M) (hs : ∀ s, s ∈ M → s ∈ L) (ht : sub L t) : Cl (post t M) ∧ sub (post t M) t ∧ (∀ s, s ∈ post t M → s ∈ L) ∧ (post t M).length ≤ L.length := by
  obtain ⟨N, e, c, st, p, _⟩ := post_spec t M hM
  rw [e]
  have hin : ∀ s, s ∈ M ++ N → s ∈ L := by
    intro s h
    have hk := Cl_kids c s h
    rcases List.mem_append.1 h with h | h
    · exact hs s h
    · have := p _ (Her_sub hL) ht s h
      revert hk this
      cases s with
      | leaf _ => exact fun h => h.elim
      | node _ _ _ => exact fun _ h => h
  exact ⟨c, st, hin, nodup_len (Cl_nodup c) hin⟩

theorem eInts_cells (l : List Int) (k : Nat) {n : Int} (h : l[k]? = some n) (nl : Bool) (o : Own) : iaD 1 (eInts nl l o) (.i .i64 k) = some (.el [.i .i64 n] 0) := by
  simp [eInts, iaD, h]
@[simp] theorem eInts_len (nl : Bool) (l : List Int) (o : Own) : lenD false (eInts nl l o) = some (.i .i64 l.length) := by simp [eInts, lenD]

theorem v57 (nl nl' : Bool) (ord : List Row) (root : Int) {L : List T} (hc : Cl L) (hb : L.length ≤ 4096) : ∀ (t : T) (M : List T) (n : Bool) (o : Own) (S : Store), sub L t → Cl M → (∀ s, s ∈ M → s ∈ L) → Liv S n M.length o →
    ∃ n' o' S', call dp 57 [eB nl nl' ord (nds L) root, .i .i64 (code L t), eInts n (M.map (code L)) o] S = some (eInts n' ((post t M).map (code L)) o', S') ∧ Liv S' n' (post t M).length o' ∧ Pres S S' := by
  intro t
  induction t with
  | leaf b =>
    intro M n o S _ _ _ hl
    have := f57 (eB nl nl' ord (nds L) root) (.i .i64 (code L (.leaf b))) (eInts n (M.map (code L)) o) S (fun r S' => r = eInts n (M.map (code L)) o ∧ Liv S' n M.length o ∧ Pres S S') (by
      simp [s57, code_leaf_lt]
      exact ⟨hl.push _, Pres.push _ _⟩)
    obtain ⟨r, S', e, rfl, h1, h2⟩ := this
    exact ⟨n, o, S', e, h1, h2⟩
  | node v l h ihl ihh =>
    intro M n o S ht hM hML hl
    obtain ⟨kl, kh⟩ := Cl_kids hc _ ht
    have hge := code_node_ge L v l h
    have hlt := code_lt ht
    have hpos : (code L (.node v l h) - 2).toNat = pos L (.node v l h) := by simp only [code]; omega
    have hnd := nds_get ht
    have hml : M.length ≤ L.length := nodup_len (Cl_nodup hM) hML
    let P : D → Store → Prop := fun r S' => ∃ n' o', r = eInts n' ((post (.node v l h) M).map (code L)) o' ∧ Liv S' n' (post (.node v l h) M).length o' ∧ Pres S S'
    have := f57 (eB nl nl' ord (nds L) root) (.i .i64 (code L (.node v l h))) (eInts n (M.map (code L)) o) S P (by
      simp [s57, show ¬ code L (.node v l h) < 2 by omega]
      let J : Nat → List D → Store → Prop := fun q fr S' => ∃ k a6 a14, k + q = M.length ∧ T.node v l h ∉ M.take k ∧ S' = Ent.box [eRows nl ord, eNds nl' (nds L), .i .i64 root] :: S ∧
        fr = mkf 48 [(1, .i .i64 (code L (.node v l h))), (2, eInts n (M.map (code L)) o), (3, .bx S.length 0), (6, a6), (7, .i .i64 k), (14, a14)]
      refine W_loop J ?_ M.length _ _ ⟨0, _, _, by simp, by simp, rfl, rfl⟩
      rintro q fr S' ⟨k, a6, a14, hk, hn, rfl, rfl⟩
      rw [← wp_W, e57_0]
      simp [s57_0]
      split
      · rename_i hkl
        obtain ⟨x, hx⟩ : ∃ x, M[k]? = some x := ⟨_, List.getElem?_eq_getElem (by omega)⟩
        have hxL := hML x (List.mem_of_getElem? hx)
        have hxs : sub L x := by
          have := Cl_kids hM x (List.mem_of_getElem? hx)
          revert this hxL
          cases x with
          | leaf _ => exact fun _ h => h.elim
          | node _ _ _ => exact fun h _ => h
        rw [eInts_cells _ k (n := code L x) (by simp [hx])]
        simp
        by_cases e : x = .node v l h
        · subst e
          have hp : post (.node v l h) M = M := by rw [post, if_pos (List.mem_of_getElem? hx)]
          simp
          exact ⟨n, o, by rw [hp], by rw [hp]; exact hl.push _, Pres.push _ _⟩
        · have hne : code L x ≠ code L (.node v l h) := fun e' => e (code_inj hxs ht e')
          simp [hne, wrapS (show Bd k by unfold Bd; omega)]
          refine ⟨q - 1, by omega, k + 1, _, _, by omega, ?_, rfl, rfl⟩
          rw [take_snoc hx]
          simp
          exact ⟨hn, fun e' => e e'.symm⟩
      · have hM' : T.node v l h ∉ M := by
          have : M.take k = M := List.take_of_length_le (by omega)
          rwa [this] at hn
        obtain ⟨c1, s1, m1, z1⟩ := post_in hc hM hML kl
        obtain ⟨c2, s2, m2, z2⟩ := post_in hc c1 m1 kh
        have hp : post (.node v l h) M = post h (post l M) ++ [.node v l h] := by rw [post, if_neg hM']
        obtain ⟨n1, o1, S1, q1, l1, p1⟩ := ihl M n o (Ent.box [eRows nl ord, eNds nl' (nds L), .i .i64 root] :: S) kl hM hML (hl.push _)
        obtain ⟨n2, o2, S2, q2, l2, p2⟩ := ihh (post l M) n1 o1 S1 kh c1 m1 l1
        have hbx : sget S1 S.length = some (.box [eRows nl ord, eNds nl' (nds L), .i .i64 root]) := p1 _ _ (by simp)
        simp [e57_r0, s57_r0]
        rw [wrap64 ⟨by omega, by omega⟩, iaD_nds' _ (by omega) (by rw [hpos]; exact hnd)]
        simp only [OX_some, nd_1, nd_2, faD_el, ldD_el, rdK_one, Nat.zero_add, nd, eB] at q1 q2 ⊢
        rw [q1]
        have hbx2 : sget S2 S.length = some (.box [eRows nl ord, eNds nl' (nds L), .i .i64 root]) := p2 _ _ hbx
        simp only [OX_some, hbx, ldE_box, rdK_lit3, rdK_one, List.getElem?_cons_succ, List.getElem?_cons_zero]
        rw [iaD_nds' _ (by omega) (by rw [hpos]; exact hnd)]
        simp only [OX_some, nd_1, nd_2, faD_el, ldD_el, rdK_one, Nat.zero_add, nd, q2]
        have hz : (post h (post l M)).length + 1 ≤ L.length := by
          have := post_in hc hM hML ht
          rw [hp] at this
          simpa using this.2.2.2
        obtain ⟨t, S3, q3, l3, p3, _, _⟩ := app_liv (k := 1) (n' := false) (xs := ((post h (post l M)).map (code L)).map fun n => [D.i .i64 n]) (ys := [[.i .i64 (code L (.node v l h))]]) (o' := .ro) (by simpa using l2) (by simp [maxLenD]; omega) (by simp)
        simp only [eInts] at q3 ⊢
        rw [q3]
        refine ⟨false, .tok t, ?_, .inr ⟨rfl, t, rfl, l3⟩, ((Pres.push _ _).trans p1).trans (p2.trans p3)⟩
        simp [eInts, hp])
    obtain ⟨r, S', e, ⟨n', o', rfl, h1, h2⟩⟩ := this
    exact ⟨n', o', S', e, h1, h2⟩

end Go.Proofs.YtjlmeikcfdanmaaGreatDoor.DE.V

namespace Go.Proofs.YtjlmeikcfdanmaaGreatDoor.DE.V
open Go BT


/-- A valid diagram. -/
def VB (ord : List Row) (ns : List Nd) (root : Int) : Prop :=
  (OrdOk ord ∧ ord.length ≤ 4096) ∧ ns.length ≤ 4096 ∧ (Sh ord.length ns ∧ 0 ≤ root ∧ root < ns.length + 2) ∧ ∃ t, Cano ns root t

theorem okNd_of {n : Nat} {ns : List Nd} {k : Nat} {x : Nd} (hx : ns[k]? = some x) (h : Sh n ns) : okNd n (ns.take k) x :=
  (Sh_snoc.1 (take_snoc hx ▸ Sh_take (k + 1) h)).2

open Classical in
theorem v24 (nl nl' : Bool) (ord : List Row) (ns : List Nd) (root : Int) (hb : Bd (ns.length + 2)) (hb' : Bd ord.length) :
    isoCall (call dp) 24 [eB nl nl' ord ns root] = some (.b (decide (VB ord ns root))) := by
  obtain ⟨c, hc⟩ : ∃ c, c = decide (VB ord ns root) := ⟨_, rfl⟩
  rw [← hc]
  apply i24 _ _ (by simp [noRefL]) rfl
  simp [s24, v16 _ _ hb']
  have hbn : (ns.length : Int) + 2 ≤ 4611686018427387904 := by unfold Bd at hb; omega
  rw [wrap64 ⟨by omega, by omega⟩]
  have hf : ∀ P : Prop, (VB ord ns root → P) → ¬ P → c = false := fun P h1 h2 => by rw [hc]; exact decide_eq_false fun h => h2 (h1 h)
  by_cases h1 : OrdOk ord ∧ ord.length ≤ 4096
  case neg =>
    have := hf _ (fun h => h.1) h1
    have h1' : OrdOk ord → 4096 < ord.length := fun h => Nat.lt_of_not_le fun k => h1 ⟨h, k⟩
    simp [this]
    intro q1 q2
    exact absurd ⟨q1, q2⟩ h1
  by_cases h2 : ns.length ≤ 4096
  case neg =>
    have := hf _ (fun h => h.2.1) h2
    simp [h1, this]
    intro q1; exact absurd (show ns.length ≤ 4096 by omega) h2
  by_cases h3 : 0 ≤ root
  case neg =>
    have := hf _ (fun h => h.2.2.1.2.1) h3
    simp [h1, this]
    intro q1 q2; exact absurd q2 h3
  by_cases h4 : root < ns.length + 2
  case neg =>
    have := hf _ (fun h => h.2.2.1.2.2) h4
    simp [h1, this]
    intro q1 q2 q3; exact absurd q3 h4
  have f2 : ¬ (4096 : Int) < ns.length := by omega
  have f3 : ¬ root < 0 := by omega
  have f4 : ¬ (ns.length : Int) + 2 ≤ root := by omega
  simp [h1, f2, f3, f4]
  let J : Nat → List D → Store → Prop := fun q fr S => ∃ k a2 a4 a5 a6 a7 a36 a104 a121, k + q = ns.length ∧ Sh ord.length (ns.take k) ∧ sget S 0 = some (.box [eRows nl ord, eNds nl' ns, .i .i64 root]) ∧
    fr = mkf 137 [(1, .bx 0 0), (2, a2), (3, .i .i64 k), (4, a4), (5, a5), (6, a6), (7, a7), (36, a36), (104, a104), (121, a121)]
  refine W_loop J ?_ ns.length _ _ ⟨0, _, _, _, _, _, _, _, _, by simp, by simp [Sh_nil], by simp, rfl⟩
  rintro q fr S ⟨k, a2, a4, a5, a6, a7, a36, a104, a121, hk, ho, hS0, rfl⟩
  rw [← wp_W, e24_2]
  simp [s24_2, hS0]
  by_cases hkl : k < ns.length
  case pos =>
    obtain ⟨x, hx⟩ : ∃ x, ns[k]? = some x := ⟨_, List.getElem?_eq_getElem (by omega)⟩
    have ht := take_snoc hx
    have hlt := sget_lt hS0
    have h0ne : ¬ 0 = S.length := by omega
    have w2 : IntKind.i64.wrap ((k : Int) + 2) = k + 2 := wrap64 ⟨by omega, by omega⟩
    have hl : (ns.take k).length = k := by rw [List.length_take]; omega
    have hok : VB ord ns root → okNd ord.length (ns.take k) x := fun hs => okNd_of hx hs.2.2.1.1
    simp [hkl, iaD_nds _ hx, w2, hS0, h0ne]
    by_cases hin : (0 ≤ x.1 ∧ x.1 < ord.length) ∧ (0 ≤ x.2.1 ∧ 0 ≤ x.2.2 ∧ x.2.1 < k + 2 ∧ x.2.2 < k + 2) ∧ x.2.1 ≠ x.2.2
    case neg =>
      have := hf _ hok (fun h => hin ⟨h.1, by have := h.2.1; rw [hl] at this; omega, h.2.2.1⟩)
      simp [this]
      intro g1 g2 g3 g4 g5 g6 g7
      exact absurd ⟨⟨g1, g2⟩, ⟨g3, g4, g5, g6⟩, g7⟩ hin
    obtain ⟨⟨c1, c2⟩, ⟨i1, i2, i3, i4⟩, c3⟩ := hin
    have f1 : ¬ x.1 < 0 := by omega
    have f2 : ¬ (ord.length : Int) ≤ x.1 := by omega
    have f3 : ¬ x.2.1 < 0 := by omega
    have f4 : ¬ x.2.2 < 0 := by omega
    have f5 : ¬ (k : Int) + 2 ≤ x.2.1 := by omega
    have f6 : ¬ (k : Int) + 2 ≤ x.2.2 := by omega
    have e1 := v56 nl nl' ord ns root x.2.1 ⟨by omega, by omega⟩ (by omega)
    have e2 := v56 nl nl' ord ns root x.2.2 ⟨by omega, by omega⟩ (by omega)
    rw [← lev_take i3 (by omega)] at e1
    rw [← lev_take i4 (by omega)] at e2
    simp only [eB] at e1 e2
    simp [f1, f2, f3, f4, f5, f6, c3, e1, e2]
    by_cases hlv : x.1 < lev ord.length (ns.take k) x.2.1 ∧ x.1 < lev ord.length (ns.take k) x.2.2
    case neg =>
      have := hf _ hok (fun h => hlv h.2.2.2.1)
      simp [this]
      intro g1 g2
      exact absurd ⟨g1, g2⟩ hlv
    have f7 : ¬ lev ord.length (ns.take k) x.2.1 ≤ x.1 := by omega
    have f8 : ¬ lev ord.length (ns.take k) x.2.2 ≤ x.1 := by omega
    simp [f7, f8]
    let J2 : Nat → List D → Store → Prop := fun q fr S' => ∃ j a104, j + q = k ∧ x ∉ ns.take j ∧ S' = Ent.box (eNd x) :: S ∧
      fr = mkf 137 [(1, .bx 0 0), (2, a2), (3, .i .i64 k), (4, .bx S.length 0), (5, .i .i64 j), (6, a6), (7, a7), (36, .top), (104, a104), (121, a121)]
    refine W_loop J2 ?_ k _ _ ⟨0, _, by simp, by simp, rfl, rfl⟩
    rintro q' fr S' ⟨j, a104, hj, hn, rfl, rfl⟩
    rw [← wp_W, e24_1]
    simp [s24_1, hS0, h0ne]
    by_cases hjk : j < k
    case pos =>
      obtain ⟨y, hy⟩ : ∃ x, ns[j]? = some x := ⟨_, List.getElem?_eq_getElem (by omega)⟩
      simp [hjk, iaD_nds _ hy]
      by_cases e : y = x
      · have hy' : (ns.take k)[j]? = some y := by rw [List.getElem?_take, if_pos hjk]; exact hy
        have := hf _ hok (fun h => h.2.2.2.2 (e ▸ List.mem_of_getElem? hy'))
        simp [e, this]
      · simp [e, wrapS (show Bd j by unfold Bd; omega)]
        refine ⟨q' - 1, by omega, j + 1, _, by omega, ?_, rfl, rfl⟩
        rw [take_snoc hy]
        simp [hn]
        exact fun h => e h.symm
    case neg =>
      have : j = k := by omega
      subst this
      simp [e24_r0, s24_r0, wrapS (show Bd j by unfold Bd; omega)]
      refine ⟨q - 1, by omega, j + 1, _, _, _, _, _, _, _, _, by omega, ?_, sget_push hS0, rfl⟩
      rw [ht, Sh_snoc]
      exact ⟨ho, ⟨c1, c2⟩, by rw [hl]; exact ⟨⟨i1, i3⟩, ⟨i2, i4⟩⟩, c3, hlv, hn⟩
  case neg =>
    have : ns.take k = ns := List.take_of_length_le (by omega)
    rw [this] at ho
    obtain ⟨L, hL, e, hw⟩ := Sh_trees ho
    subst e
    rw [nds_len] at *
    obtain ⟨t, ht, rfl, _⟩ := code_all hL h3 h4
    have hcan : VB ord (nds L) (code L t) ↔ post t [] = L := by
      rw [← Cano_iff hL ht]
      exact ⟨fun h => h.2.2.2, fun h => ⟨h1, by rw [nds_len]; exact h2, ⟨ho, h3, by rw [nds_len]; exact h4⟩, h⟩⟩
    have hc' : c = true ↔ post t [] = L := by rw [hc, decide_eq_true_iff]; exact hcan
    obtain ⟨n1, o1, S1, q1, l1, p1⟩ := v57 nl nl' ord (code L t) hL h2 t [] true .ro S ht Cl_nil (by simp) (.inl ⟨rfl, rfl, rfl⟩)
    obtain ⟨pc, ps, pm, pl⟩ := post_in hL Cl_nil (by simp) ht
    have hS1 := p1 _ _ hS0
    rw [show eInts true ([].map (code L)) .ro = D.sl 1 true [] .ro from rfl] at q1
    simp only [eB] at q1
    simp [hkl, e24_r2, s24_r2, hS0, q1]
    let J3 : Nat → List D → Store → Prop := fun q fr S' => ∃ k a121, k + q = (post t []).length ∧ (post t []).take k = L.take k ∧ S' = S1 ∧
      fr = mkf 137 [(1, .bx 0 0), (2, a2), (3, .top), (4, a4), (5, a5), (6, eInts n1 ((post t []).map (code L)) o1), (7, .i .i64 k), (36, .top), (104, a104), (121, a121)]
    refine W_loop J3 ?_ (post t []).length _ _ ⟨0, _, by simp, by simp, rfl, rfl⟩
    rintro q' fr S' ⟨j, a121, hj, hn, rfl, rfl⟩
    rw [← wp_W, e24_0]
    simp [s24_0]
    by_cases hjl : j < (post t []).length
    case pos =>
      obtain ⟨x, hx⟩ : ∃ x, (post t [])[j]? = some x := ⟨_, List.getElem?_eq_getElem (by omega)⟩
      obtain ⟨y, hy⟩ : ∃ x, L[j]? = some x := ⟨_, List.getElem?_eq_getElem (by omega)⟩
      have hcy := code_get hL hy
      have hxm := pm x (List.mem_of_getElem? hx)
      have sub_of : ∀ x, x ∈ L → sub L x := by
        intro x hx
        have := Cl_kids hL x hx
        revert this hx
        cases x with
        | leaf _ => exact fun _ h => h.elim
        | node _ _ _ => exact fun h _ => h
      have hia := eInts_cells ((post t []).map (code L)) j (n := code L x) (by simp [hx]) n1 o1
      simp [hjl, hia, wrap64 (n := (j : Int) + 2) ⟨by omega, by omega⟩]
      by_cases e : x = y
      · subst e
        simp [hcy, wrapS (show Bd j by unfold Bd; omega)]
        exact ⟨q' - 1, by omega, j + 1, _, by omega, take_next hn hx hy, rfl, rfl⟩
      · have hne : ¬ code L x = (j : Int) + 2 := by
          rw [← hcy]
          exact fun h => e (code_inj (sub_of x hxm) (sub_of y (List.mem_of_getElem? hy)) h)
        have : c = false := by
          rw [← Bool.not_eq_true, hc']
          intro h
          rw [h, hy] at hx
          injection hx with hx
          exact e hx.symm
        simp [hne, this]
    case neg =>
      simp [hjl, e24_r1, s24_r1, hS1]
      have hj' : (post t []).take j = post t [] := List.take_of_length_le (by omega)
      rw [hj'] at hn
      by_cases e : (post t []).length = L.length
      · have : c = true := by rw [hc', hn, List.take_of_length_le (by omega)]
        simp [e, this, nds_len]
      · have : c = false := by
          rw [← Bool.not_eq_true, hc']
          exact fun h => e (by rw [h])
        simp [e, this, nds_len]
        omega

end Go.Proofs.YtjlmeikcfdanmaaGreatDoor.DE.V

namespace Go.Proofs.YtjlmeikcfdanmaaGreatDoor.DE.V
open Go BT


theorem sub_of {L : List T} (hL : Cl L) : ∀ x, x ∈ L → sub L x := by
  intro x hx
  have := Cl_kids hL x hx
  revert this hx
  cases x with
  | leaf _ => exact fun _ h => h.elim
  | node _ _ _ => exact fun h _ => h

/-- The entries stay, but for those of p. -/
def Keep (p : Nat → Prop) (S S' : Store) : Prop := ∀ id e, ¬ p id → sget S id = some e → sget S' id = some e
theorem Keep.push (p : Nat → Prop) (e : Ent) (S : Store) : Keep p S (e :: S) := fun _ _ _ h => sget_push h
theorem Keep.sset {p : Nat → Prop} {S : Store} (id : Nat) (x : Ent) (h : p id) : Keep p S (sset S id x) := fun j e hj k => by
  rw [sget_sset_ne]
  · exact k
  · rintro rfl; exact hj h
theorem Keep.trans {p : Nat → Prop} {S S' S'' : Store} (h : Keep p S S') (k : Keep p S' S'') : Keep p S S'' := fun id e hp he => k id e hp (h id e hp he)

/-- The map of 'done' and the nodes written, behind the trees of M. -/
noncomputable def numM (L M : List T) : List (Int × Int) := (0, 0) :: (1, 1) :: M.map fun s => (code L s, code M s)

def eI (n : Int) : D := .i .i64 n

/-- What 'visit' finds in the store. -/
def NumI (nl' : Bool) (q r : D) (L : List T) (i1 i2 i3 i4 im : Nat) (M : List T) (S : Store) : Prop :=
  sget S i1 = some (.box [.mp im]) ∧ sget S im = some (.map (eMap eI eI (numM L M))) ∧ sget S i2 = some (.box [eNds nl' (nds L)]) ∧
  sget S i3 = some (.box [.fn 115 [.bx i1 0, .bx i2 0, .bx i3 0, .bx i4 0]]) ∧ ∃ n o, sget S i4 = some (.box [q, .sl 3 n ((nds M).map eNd) o, r]) ∧ Liv S n M.length o

/-- Boxes other than p stay. -/
def PresB (p : Nat) (S S' : Store) : Prop := ∀ id cs, id ≠ p → sget S id = some (.box cs) → sget S' id = some (.box cs)
theorem PresB.trans {p : Nat} {S S' S'' : Store} (h : PresB p S S') (k : PresB p S' S'') : PresB p S S'' := fun id cs hp e => k id cs hp (h id cs hp e)
theorem PresB.push (p : Nat) (e : Ent) (S : Store) : PresB p S (e :: S) := fun _ _ _ h => sget_push h
theorem PresB.refl (p : Nat) (S : Store) : PresB p S S := fun _ _ _ h => h
theorem Pres.B {S S' : Store} (p : Nat) (h : Pres S S') : PresB p S S' := fun id cs _ e => h id cs e

theorem assoc_code {L : List T} {M : List T} (hM : ∀ s, s ∈ M → sub L s) {t : T} (ht : sub L t) (f : T → Int) : ∀ (h : ∀ v l h, t = .node v l h → True), assoc (code L t) (M.map fun s => (code L s, f s)) = if t ∈ M then some (f t) else none := by
  intro _
  induction M with
  | nil => simp [assoc]
  | cons s M ih =>
    simp only [List.map_cons, assoc]
    have ih := ih (fun s hs => hM s (List.mem_cons_of_mem _ hs))
    by_cases e : t = s
    · subst e; simp
    · have : code L t ≠ code L s := fun h => e (code_inj ht (hM s (by simp)) h)
      simp [this, ih, e]

theorem keyE_eI : KeyE (.one .i) eI := keyE_i
theorem deq_i (n : Int) : deq (.i .i64 n) (.i .i64 n) = true := by simp [deq]
theorem deq_fn4 (a b c d : Nat) : deq (.fn 115 [.bx a 0, .bx b 0, .bx c 0, .bx d 0]) (.fn 115 [.bx a 0, .bx b 0, .bx c 0, .bx d 0]) = true := by simp [deq, deqL]

theorem NumI_keep {nl' : Bool} {q r : D} {L : List T} {i1 i2 i3 i4 im : Nat} {M : List T} {S S' : Store} {p : Nat → Prop} (h : NumI nl' q r L i1 i2 i3 i4 im M S) (hk : Keep p S S')
    (p1 : ¬ p i1) (p2 : ¬ p i2) (p3 : ¬ p i3) (p4 : ¬ p i4) (pm : ¬ p im) (pt : ∀ t, p t → sget S t ≠ some (.tok true)) : NumI nl' q r L i1 i2 i3 i4 im M S' := by
  obtain ⟨a, b, c, d, n, o, e, l⟩ := h
  refine ⟨hk _ _ p1 a, hk _ _ pm b, hk _ _ p2 c, hk _ _ p3 d, n, o, hk _ _ p4 e, ?_⟩
  rcases l with l | ⟨l1, t, l2, l3⟩
  · exact .inl l
  · exact .inr ⟨l1, t, l2, hk _ _ (fun k => pt t k l3) l3⟩

theorem numM_snoc {L M : List T} {t : T} {v : Nat} {l h : T} (hM : ∀ s, s ∈ M → sub M s) (ht : T.node v l h = t) (hn : t ∉ M) : numM L (M ++ [t]) = numM L M ++ [(code L t, (M.length : Int) + 2)] := by
  subst ht
  simp only [numM, List.map_append, List.cons_append, List.map_cons, List.map_nil]
  congr 3
  · apply List.map_congr_left
    intro s hs
    rw [code_app _ (hM s hs)]
  · simp only [code]
    rw [pos_new [] hn]

theorem v115 (nl' : Bool) (q r : D) {L : List T} (hc : Cl L) (hb : L.length ≤ 1000000) (i1 i2 i3 i4 im : Nat) (h41 : i4 ≠ i1) (h42 : i4 ≠ i2) (h43 : i4 ≠ i3) : ∀ (t : T) (M : List T) (S : Store), sub L t → Cl M → (∀ s, s ∈ M → s ∈ L) → NumI nl' q r L i1 i2 i3 i4 im M S →
    ∃ S', call dp 115 [.i .i64 (code L t), .bx i1 0, .bx i2 0, .bx i3 0, .bx i4 0] S = some (.i .i64 (code (post t M) t), S') ∧ NumI nl' q r L i1 i2 i3 i4 im (post t M) S' ∧ PresB i4 S S' := by
  intro t
  induction t with
  | leaf b =>
    intro M S ht hM hML hI
    let P : D → Store → Prop := fun r' S' => r' = .i .i64 (code M (.leaf b)) ∧ S' = S
    obtain ⟨r', S', e, rfl, rfl⟩ := f115 (.i .i64 (code L (.leaf b))) (.bx i1 0) (.bx i2 0) (.bx i3 0) (.bx i4 0) S P (by
      simp [s115, hI.1]
      have := lkD'_mp keyE_eI (a := code L (.leaf b)) rfl hI.2.1 true (.i .i64 0)
      rw [show D.i .i64 (code L (.leaf b)) = eI (code L (.leaf b)) from rfl, this]
      cases b <;> simp [numM, assoc, code, eI] <;> exact ⟨rfl, rfl⟩)
    exact ⟨S', e, hI, PresB.refl _ _⟩
  | node v l h ihl ihh =>
    intro M S ht hM hML hI
    obtain ⟨kl, kh⟩ := Cl_kids hc _ ht
    have hge := code_node_ge L v l h
    have hlt := code_lt ht
    have hpos : (code L (.node v l h) - 2).toNat = pos L (.node v l h) := by simp only [code]; omega
    have hnd := nds_get ht
    have hMs : ∀ s, s ∈ M → sub L s := fun s hs => sub_of hc s (hML s hs)
    let P : D → Store → Prop := fun r' S' => r' = .i .i64 (code (post (.node v l h) M) (.node v l h)) ∧ NumI nl' q r L i1 i2 i3 i4 im (post (.node v l h) M) S' ∧ PresB i4 S S'
    have hlook : assoc (code L (.node v l h)) (numM L M) = if T.node v l h ∈ M then some (code M (.node v l h)) else none := by
      have h0 : ¬ code L (.node v l h) = 0 := by omega
      have h1 : ¬ code L (.node v l h) = 1 := by omega
      simp only [numM, assoc, h0, h1, if_false]
      exact assoc_code hMs ht _ (fun _ _ _ _ => trivial)
    obtain ⟨r', S', e, rfl, h1, h2⟩ := f115 (.i .i64 (code L (.node v l h))) (.bx i1 0) (.bx i2 0) (.bx i3 0) (.bx i4 0) S P (by
      have hlk := lkD'_mp keyE_eI (a := code L (.node v l h)) rfl hI.2.1 true (.i .i64 0)
      rw [hlook] at hlk
      simp only [eI] at hlk
      simp [s115, hI.1, hlk]
      by_cases hm : T.node v l h ∈ M
      · have hp : post (.node v l h) M = M := by rw [post, if_pos hm]
        simp [hm]
        exact ⟨by rw [hp]; rfl, by rw [hp]; exact hI, PresB.refl _ _⟩
      · simp [hm, hI.2.2.1, hI.2.2.2.1]
        rw [wrap64 ⟨by omega, by omega⟩, iaD_nds' _ (by omega) (by rw [hpos]; exact hnd)]
        obtain ⟨c1, s1, m1, z1⟩ := post_in hc hM hML kl
        obtain ⟨c2, s2, m2, z2⟩ := post_in hc c1 m1 kh
        have hp : post (.node v l h) M = post h (post l M) ++ [.node v l h] := by rw [post, if_neg hm]
        have hpi := post_in hc hM hML ht
        rw [hp] at hpi
        obtain ⟨N2, e2, _⟩ := post_spec h (post l M) c1
        have hcode : code (post h (post l M)) l = code (post l M) l := by rw [e2, code_app _ s1]
        have hz : (post h (post l M)).length + 1 ≤ L.length := by simpa using hpi.2.2.2
        have hnm : T.node v l h ∉ post h (post l M) := (Cl_snoc.1 hpi.1).2.1
        have g1 := sget_lt hI.1
        have g2 := sget_lt hI.2.2.1
        have g3 := sget_lt hI.2.2.2.1
        have gm := sget_lt hI.2.1
        have g4 : i4 < S.length := by obtain ⟨_, _, _, _, _, _, e, _⟩ := hI; exact sget_lt e
        have hm1 : im ≠ i4 := by rintro rfl; obtain ⟨_, b, _, _, _, _, e, _⟩ := hI; rw [b] at e; cases e
        have hI1 := NumI_keep hI (Keep.push (fun _ => False) (.box (eNd (nd L (.node v l h)))) S) id id id id id (fun _ k => k.elim)
        obtain ⟨S1, q1, I1, P1⟩ := ihl M _ kl hM hML hI1
        obtain ⟨S2, q2, I2, P2⟩ := ihh (post l M) S1 kh c1 m1 I1
        have b0 : sget (Ent.box (eNd (nd L (.node v l h))) :: S) S.length = some (.box (eNd (nd L (.node v l h)))) := by simp
        have b1 := P1 _ _ (by omega) b0
        have b2 := P2 _ _ (by omega) b1
        have hS : PresB i4 S (Ent.box (eNd (nd L (.node v l h))) :: S) := PresB.push _ _ _
        simp only [OX_some, ldD_el_nd, cellsK_nd, Option.bind_some, splice_nd]
        simp only [nd] at b0 b1 b2 hI1 q1 P1 hS ⊢
        generalize Ent.box (eNd ((v : Int), code L l, code L h)) :: S = Sa at *
        simp only [b0, hI1.2.2.2.1, ldE_box, rdK_one, nd_1, nd_2, List.getElem?_cons_zero, OX_some, fnD_fn, q1, I1.2.2.2.1, deq_fn4, true_and, b1, deq_i, q2, b2]
        simp only [eNd, stE3_1, isCell_i, OX_some]
        have hlt2 := sget_lt b2
        have b3 : sget (sset S2 S.length (.box [.i .i64 v, .i .i64 (code (post l M) l), .i .i64 (code L h)])) S.length = _ := sget_sset _ hlt2
        simp only [b3, stE3_2, isCell_i, OX_some]
        have k3 : Keep (fun j => j = S.length) S2 (sset (sset S2 S.length (.box [.i .i64 v, .i .i64 (code (post l M) l), .i .i64 (code L h)])) S.length (.box [.i .i64 v, .i .i64 (code (post l M) l), .i .i64 (code (post h (post l M)) h)])) :=
          (Keep.sset (p := fun j => j = S.length) _ _ rfl).trans (Keep.sset (p := fun j => j = S.length) _ _ rfl)
        have I3 := NumI_keep I2 k3 (by omega) (by omega) (by omega) (by omega) (by omega) (by rintro _ rfl h; rw [b2] at h; cases h)
        have b4 : sget (sset (sset S2 S.length (.box [.i .i64 v, .i .i64 (code (post l M) l), .i .i64 (code L h)])) S.length (.box [.i .i64 v, .i .i64 (code (post l M) l), .i .i64 (code (post h (post l M)) h)])) S.length = _ := sget_sset _ (by rw [sset_len]; exact hlt2)
        generalize sset (sset S2 S.length (.box [.i .i64 v, .i .i64 (code (post l M) l), .i .i64 (code L h)])) S.length (.box [.i .i64 v, .i .i64 (code (post l M) l), .i .i64 (code (post h (post l M)) h)]) = S3 at *
        have P3 : PresB i4 S S3 := by
          intro id cs hid e
          exact k3 _ _ (by have := sget_lt e; simp only; omega) (P2 _ _ hid (P1 _ _ hid (hS _ _ hid e)))
        obtain ⟨j1, jm, j2, j3, n, o, j4, jl⟩ := I3
        have hlk : ((nds (post h (post l M))).map eNd).length = (post h (post l M)).length := by rw [List.length_map, nds_len]
        obtain ⟨t', S4, q4, l4, p4, m4, z4⟩ := app_liv (k := 3) (n' := false) (xs := (nds (post h (post l M))).map eNd) (ys := [[.i .i64 v, .i .i64 (code (post l M) l), .i .i64 (code (post h (post l M)) h)]]) (o' := .ro) (by rw [hlk]; exact jl) (by rw [hlk]; simp [maxLenD]; omega) (by simp)
        have j4' := p4 _ _ j4
        simp only [j4, ldE_box, rdK_one, List.getElem?_cons_succ, List.getElem?_cons_zero, OX_some, b4, rdK_lit3]
        rw [show cellsV 3 true [D.agg [.i .i64 v, .i .i64 (code (post l M) l), .i .i64 (code (post h (post l M)) h)]] = some [[.i .i64 v, .i .i64 (code (post l M) l), .i .i64 (code (post h (post l M)) h)]] from rfl]
        simp only [OX_some, q4, j4', stE3_1, isCell_sl]
        have hX : (nds (post h (post l M))).map eNd ++ [[D.i .i64 v, .i .i64 (code (post l M) l), .i .i64 (code (post h (post l M)) h)]] = (nds (post h (post l M) ++ [.node v l h])).map eNd := by
          rw [nds_snoc hpi.1, List.map_append, ← hcode]; rfl
        rw [hX]
        have hlX : ((nds (post h (post l M) ++ [.node v l h])).map eNd).length = (post h (post l M)).length + 1 := by rw [List.length_map, nds_len]; simp
        have a1 := j1
        have s1 : sget (sset S4 i4 (.box [q, .sl 3 false ((nds (post h (post l M) ++ [.node v l h])).map eNd) (.tok t'), r])) i1 = _ := (sget_sset_ne _ (Ne.symm h41)).trans (p4 _ _ j1)
        have s2 : sget (sset S4 i4 (.box [q, .sl 3 false ((nds (post h (post l M) ++ [.node v l h])).map eNd) (.tok t'), r])) i2 = _ := (sget_sset_ne _ (Ne.symm h42)).trans (p4 _ _ j2)
        have s3 : sget (sset S4 i4 (.box [q, .sl 3 false ((nds (post h (post l M) ++ [.node v l h])).map eNd) (.tok t'), r])) i3 = _ := (sget_sset_ne _ (Ne.symm h43)).trans (p4 _ _ j3)
        have s4 : sget (sset S4 i4 (.box [q, .sl 3 false ((nds (post h (post l M) ++ [.node v l h])).map eNd) (.tok t'), r])) i4 = _ := sget_sset _ (sget_lt j4')
        have sm : sget (sset S4 i4 (.box [q, .sl 3 false ((nds (post h (post l M) ++ [.node v l h])).map eNd) (.tok t'), r])) im = _ := (sget_sset_ne _ hm1).trans (m4 _ _ jm)
        have st : sget (sset S4 i4 (.box [q, .sl 3 false ((nds (post h (post l M) ++ [.node v l h])).map eNd) (.tok t'), r])) t' = _ := (sget_sset_ne _ (by rintro rfl; rw [j4'] at l4; cases l4)).trans l4
        have P5 : PresB i4 S (sset S4 i4 (.box [q, .sl 3 false ((nds (post h (post l M) ++ [.node v l h])).map eNd) (.tok t'), r])) := fun id cs hid e => (sget_sset_ne _ hid).trans (p4 _ _ (P3 _ _ hid e))
        generalize sset S4 i4 (.box [q, .sl 3 false ((nds (post h (post l M) ++ [.node v l h])).map eNd) (.tok t'), r]) = S5 at *
        have hm2s : ∀ s, s ∈ post h (post l M) → sub (post h (post l M)) s := sub_of c2
        have hm2L : ∀ s, s ∈ post h (post l M) → sub L s := fun s hs => sub_of hc s (m2 s hs)
        have ha : assoc (code L (.node v l h)) (numM L (post h (post l M))) = none := by
          have h0 : ¬ code L (.node v l h) = 0 := by omega
          have h1 : ¬ code L (.node v l h) = 1 := by omega
          simp only [numM, assoc, h0, h1, if_false]
          rw [assoc_code hm2L ht _ (fun _ _ _ _ => trivial), if_neg hnm]
        have hmu := muD'_new keyE_eI (ev := eI) (a := code L (.node v l h)) (b := ((post h (post l M)).length : Int) + 2) rfl sm ha
        rw [← numM_snoc (v := v) (l := l) (h := h) hm2s rfl hnm] at hmu
        have hs6 := sget_sset (Ent.map (eMap eI eI (numM L (post h (post l M) ++ [.node v l h])))) (sget_lt sm)
        have hlk6 := lkD'_mp keyE_eI (a := code L (.node v l h)) rfl hs6 false (.i .i64 0)
        have has : assoc (code L (.node v l h)) (numM L (post h (post l M) ++ [.node v l h])) = some (((post h (post l M)).length : Int) + 2) := by
          rw [numM_snoc (v := v) (l := l) (h := h) hm2s rfl hnm, assoc_app, ha]
          simp [assoc]
        rw [has] at hlk6
        simp only [eI] at hmu hlk6
        have hi1 : im ≠ i1 := by rintro rfl; rw [sm] at s1; cases s1
        have hi2 : im ≠ i2 := by rintro rfl; rw [sm] at s2; cases s2
        have hi3 : im ≠ i3 := by rintro rfl; rw [sm] at s3; cases s3
        have hit : t' ≠ im := by rintro rfl; rw [sm] at st; cases st
        simp only [s1, s4, ldE_box, rdK_one, List.getElem?_cons_succ, List.getElem?_cons_zero, OX_some, lenD_sl, bin_sub, bin_add, hlX]
        rw [wrap64 (n := ((((post h (post l M)).length + 1 : Nat) : Int) - 1)) ⟨by omega, by omega⟩, wrap64 ⟨by omega, by omega⟩]
        have e9 : ((((post h (post l M)).length + 1 : Nat) : Int) - 1 + 2) = ((post h (post l M)).length : Int) + 2 := by omega
        rw [e9, hmu]
        simp only [OX_some, sget_sset_ne _ (Ne.symm hi1), s1, ldE_box, rdK_one, List.getElem?_cons_zero, hlk6, Option.map_some, okD_fs]
        refine ⟨?_, ?_, ?_⟩
        · rw [hp]
          simp only [code]
          rw [pos_new [] hnm]
          rfl
        · rw [hp]
          refine ⟨(sget_sset_ne _ (Ne.symm hi1)).trans s1, hs6, (sget_sset_ne _ (Ne.symm hi2)).trans s2, (sget_sset_ne _ (Ne.symm hi3)).trans s3, false, .tok t', (sget_sset_ne _ (Ne.symm hm1)).trans s4, .inr ⟨rfl, t', rfl, (sget_sset_ne _ hit).trans st⟩⟩
        · exact fun id cs hid e => (sget_sset_ne _ (by rintro rfl; rw [hI.2.1] at e; cases e)).trans (P5 _ _ hid e))
    exact ⟨S', e, h1, h2⟩

@[simp] theorem ldc_bx (S : Store) (k : Nat) (g : Bool) (id o : Nat) : ldc S k g (.bx id o) = ldE (sget S id) k g o := by simp only [ldc, ldD_bx]

theorem v72 (nl nl' : Bool) (ord : List Row) {L : List T} (hc : Cl L) (hb : L.length ≤ 1000000) (t : T) (ht : sub L t) (hn : nl = true → ord = []) (ho : ord.length ≤ maxLenD) :
    ∃ n : Bool, (n = true → post t [] = []) ∧ isoCall (call dp) 72 [eRows nl ord, eNds nl' (nds L), .i .i64 (code L t)] = some (eB nl n ord (nds (post t [])) (code (post t []) t)) := by
  let S0 : Store := [Ent.box [.fn 115 [.bx 4 0, .bx 0 0, .bx 5 0, .bx 2 0]], .box [.mp 3], .map [(.i .i64 0, .i .i64 0), (.i .i64 1, .i .i64 1)], .box [eRows nl ord, .sl 3 true [] .ro, .i .i64 0], .box [.sl 2 true [] .ro, .sl 3 true [] .ro, .i .i64 0], .box [eNds nl' (nds L)]]
  have hI : NumI nl' (eRows nl ord) (.i .i64 0) L 4 0 5 2 3 [] S0 := ⟨rfl, rfl, rfl, rfl, true, .ro, rfl, .inl ⟨rfl, rfl, rfl⟩⟩
  obtain ⟨S1, q1, ⟨I1, I2, I3, I4, n, o, I5, I6⟩, P1⟩ := v115 nl' (eRows nl ord) (.i .i64 0) hc hb 4 0 5 2 3 (by omega) (by omega) (by omega) t [] S0 ht Cl_nil (by simp) hI
  have hx3 : sget S1 1 = some (.box [.sl 2 true [] .ro, .sl 3 true [] .ro, .i .i64 0]) := P1 1 _ (by omega) rfl
  refine ⟨n, ?_, ?_⟩
  · rcases I6 with ⟨_, h, _⟩ | ⟨h, _⟩
    · exact fun _ => List.length_eq_zero_iff.1 h
    · intro k; rw [k] at h; cases h
  · apply i72 _ _ _ _ (by simp [noRefL]) (by simp)
    simp [s72, v49 nl ord hn ho, bldV, muD', isKey, isSK, muD, keq, seq1]
    change (call dp) 115 [.i .i64 (code L t), .bx 4 0, .bx 0 0, .bx 5 0, .bx 2 0] S0 = _ at q1
    have q1' := q1
    simp only [S0] at q1'
    rw [q1']
    have l2 := sget_lt I5
    have l1 := sget_lt hx3
    have e1 : sget (sset S1 2 (.box [eRows nl ord, .sl 3 n ((nds (post t [])).map eNd) o, .i .i64 (code (post t []) t)])) 2 = _ := sget_sset _ l2
    have e2 : sget (sset S1 2 (.box [eRows nl ord, .sl 3 n ((nds (post t [])).map eNd) o, .i .i64 (code (post t []) t)])) 1 = _ := (sget_sset_ne _ (by omega)).trans hx3
    have e3 : sget (sset (sset S1 2 (.box [eRows nl ord, .sl 3 n ((nds (post t [])).map eNd) o, .i .i64 (code (post t []) t)])) 1 (.box [eRows nl ord, .sl 3 n ((nds (post t [])).map eNd) o, .i .i64 (code (post t []) t)])) 1 = _ := sget_sset _ (by rw [sset_len]; exact l1)
    simp [I5, e1, e2, e3]
    rfl

end Go.Proofs.YtjlmeikcfdanmaaGreatDoor.DE.V

namespace Go.Proofs.YtjlmeikcfdanmaaGreatDoor.DE.V
open Go BT


open Classical in
theorem v33 (nl nl' : Bool) (ord : List Row) (ns : List Nd) (root : Int) (hn : nl = true → ord = []) (hb : Bd (ns.length + 2)) (hb' : Bd ord.length) :
    isoCall (call dp) 33 [eB nl nl' ord ns root] = some (.b (decide (VB ord ns root))) := by
  obtain ⟨c, hc⟩ : ∃ c, c = decide (VB ord ns root) := ⟨_, rfl⟩
  rw [← hc]
  have hf : ∀ P : Prop, (VB ord ns root → P) → ¬ P → c = false := fun P h1 h2 => by rw [hc]; exact decide_eq_false fun h => h2 (h1 h)
  have e71 := v71 nl nl' ord ns root hb
  simp only [eB] at e71
  apply i33 _ _ (by simp [noRefL]) rfl
  simp [s33, v48 _ _ hb', e71]
  by_cases h1 : OrdOk ord ∧ ord.length ≤ 4096
  case neg =>
    have := hf _ (fun h => h.1) h1
    simp [this]
    intro q1 q2
    exact absurd ⟨q1, q2⟩ h1
  by_cases h2 : ns.length ≤ 4096
  case neg =>
    have := hf _ (fun h => h.2.1) h2
    simp [h1, this]
    intro q1; exact absurd (show ns.length ≤ 4096 by omega) h2
  have f2 : ¬ (4096 : Int) < ns.length := by omega
  by_cases h3 : Sh ord.length ns ∧ 0 ≤ root ∧ root < ns.length + 2
  case neg =>
    have := hf _ (fun h => h.2.2.1) h3
    simp [h1, f2, this]
    intro q1 q2 q3; exact absurd ⟨q1, q2, q3⟩ h3
  obtain ⟨ho, h4, h5⟩ := h3
  obtain ⟨L, hL, e, hw⟩ := Sh_trees ho
  subst e
  rw [nds_len] at *
  obtain ⟨t, ht, rfl, _⟩ := code_all hL h4 h5
  have hcan : VB ord (nds L) (code L t) ↔ post t [] = L := by
    rw [← Cano_iff hL ht]
    exact ⟨fun h => h.2.2.2, fun h => ⟨h1, by rw [nds_len]; exact h2, ⟨ho, h4, by rw [nds_len]; exact h5⟩, h⟩⟩
  have hc' : c = true ↔ post t [] = L := by rw [hc, decide_eq_true_iff]; exact hcan
  obtain ⟨n, _, e72⟩ := v72 nl nl' ord hL (by omega) t ht hn (by simp [maxLenD]; omega)
  simp [h1, f2, ho, h4, h5, e72, v73 n nl' (nds (post t [])) (nds L) (by rw [nds_len]; unfold Bd at *; omega)]
  obtain ⟨pc, ps, _⟩ := post_in hL Cl_nil (by simp) ht
  by_cases e : post t [] = L
  · simp [e, hc'.2 e]
  · have hcf : c = false := by rw [← Bool.not_eq_true, hc']; exact e
    have : ¬ nds (post t []) = nds L := fun h => e (nds_inj pc hL h)
    simp [this, hcf]

end Go.Proofs.YtjlmeikcfdanmaaGreatDoor.DE.V

namespace Go.Proofs.YtjlmeikcfdanmaaGreatDoor.DE
open Go

/-! (*lineage/bdd.maker).node -/
def s80 (cf : CallF) (a0 : D) (a1 : D) (a2 : D) (a3 : D) (S : Store) (Post : D → Store → Prop) : Prop :=
  OX (binD .eql .num a2 a3) fun x1 =>
  WB x1
  (Post a2 S)
  (OX (bldV [.i .i64 0, .i .i64 0, .i .i64 0] [(0, 1, false, a1), (1, 1, false, a2), (2, 1, false, a3)]) fun x2 =>
  al [.i .i64 0, .i .i64 0, .i .i64 0] S fun x3 S4 =>
  OX (stD S4 3 true x3 (.agg x2)) fun S6 =>
  OX (nilckD a0) fun x7 =>
  OX (faD 1 x7) fun x8 =>
  OX (ldD S6 1 false x8) fun x9 =>
  OX (binD .eql .map x9 .nilm) fun x10 =>
  jn (fun (y12 : D) (y13 : D) (y14 : D) (S15 : Store) =>
  OX (nilckD y12) fun x16 =>
  OX (faD 1 x16) fun x17 =>
  OX (ldD S15 1 false x17) fun x18 =>
  OX (ldD S15 3 true y13) fun x19 =>
  OX (lkD' (.agg [.i, .i, .i]) true (.i .i64 0) S15 x18 x19) fun x20 =>
  OX (extD x20 0) fun x21 =>
  OX (extD x20 1) fun x22 =>
  OX (unD .not x22) fun x23 =>
  jn (fun (y25 : D) (y26 : D) (y27 : D) (y28 : D) (S29 : Store) =>
  Post y27 S29) fun k24 =>
  WB x23
  (OX (nilckD y12) fun x30 =>
  OX (faD 0 x30) fun x31 =>
  OX (ldD S15 1 false x31) fun x32 =>
  OX (lenD false x32) fun x33 =>
  OX (binD .add .num x33 (.i .i64 2)) fun x34 =>
  OX (nilckD y12) fun x35 =>
  OX (faD 1 x35) fun x36 =>
  OX (ldD S15 1 false x36) fun x37 =>
  OX (ldD S15 3 true y13) fun x38 =>
  OX (nilckD y12) fun x39 =>
  OX (faD 0 x39) fun x40 =>
  OX (ldD S15 1 false x40) fun x41 =>
  OX (ldD S15 3 true y13) fun x42 =>
  OX (cellsV 3 true [x42]) fun x43 =>
  OX (appD 3 false x41 (.sl 3 false x43 .ro) S15) fun p45 =>
  OX (ldD p45.2 1 false x36) fun x46 => deq x46 x37 = true ∧
  (OX (ldD p45.2 3 true y13) fun x47 => deq x47 x38 = true ∧
  (OX (nilckD y12) fun x48 =>
  OX (faD 0 x48) fun x49 =>
  OX (stD p45.2 1 false x49 p45.1) fun S51 =>
  OX (ldD S51 3 true y13) fun x52 => deq x52 x38 = true ∧
  (OX (mentV (.agg [.i, .i, .i]) (.i .i64 0) S51 x37 x38) fun p54 =>
  OX (extD p54.1 1) fun x55 =>
  OX (estV p54.2 x37 x55 x34) fun S57 =>
  k24 D.top D.top x34 D.top S57))))
  (k24 y12 y13 x21 x23 S15)) fun k11 =>
  WB x10
  (mm S6 fun x58 S59 =>
  OX (nilckD a0) fun x60 =>
  OX (faD 1 x60) fun x61 =>
  OX (stD S59 1 false x61 x58) fun S63 =>
  k11 a0 x3 D.top S63)
  (k11 a0 x3 x10 S6))
theorem e80 (cf : CallF) (a0 : D) (a1 : D) (a2 : D) (a3 : D) (S : Store) (Post : D → Store → Prop) : wp cf c80 (frame0 d80 [a0, a1, a2, a3]) S (FinK d80.res Post) = s80 cf a0 a1 a2 a3 S Post := wpS_of (by kernel_rfl)
theorem f80 (a0 : D) (a1 : D) (a2 : D) (a3 : D) (S : Store) (Post : D → Store → Prop) (h : s80 (call dp) a0 a1 a2 a3 S Post) : ∃ r S', call dp 80 [a0, a1, a2, a3] S = some (r, S') ∧ Post r S' := call_s (f := d80) rfl ⟨rfl, by decide⟩ (by rw [← e80] at h; exact h)

/-! lineage/bdd.children -/
/-! lineage/bdd.combined$1 -/
/-! lineage/bdd.combined -/
/-! lineage/bdd.And -/
/-! lineage/bdd.Or -/
/-! slices.Index[[]lineage/api.RowID,lineage/api.RowID] -/
def s50_r0 (cf : CallF) (a0 : D) (a3 : D) (a4 : D) (a7 : D) (a8 : D) (a9 : D) (S : Store) (Q : Ex → List D → Store → Prop) : Prop :=
  Q .ret (mkf 19 [(0, .top), (3, .top), (4, (.i .i64 (-1))), (7, .top), (8, .top), (9, .top)]) S
theorem e50_r0 (cf : CallF) (a0 : D) (a3 : D) (a4 : D) (a7 : D) (a8 : D) (a9 : D) (S : Store) (Q : Ex → List D → Store → Prop) : wp cf c50_r0 (mkf 19 [(0, a0), (3, a3), (4, a4), (7, a7), (8, a8), (9, a9)]) S Q = s50_r0 cf a0 a3 a4 a7 a8 a9 S Q := wpS_of (by kernel_rfl)
def s50_0 (cf : CallF) (a0 : D) (a3 : D) (a4 : D) (a7 : D) (a8 : D) (a9 : D) (S : Store) (Q : Ex → List D → Store → Prop) : Prop :=
  OX (binD .lss .num a8 a7) fun x1 =>
  WB x1
  (OX (ldD S 2 true a3) fun x2 =>
  OX (iaD 2 a0 a8) fun x3 =>
  OX (ldD S 2 true x3) fun x4 =>
  OX (binD .eql (.agg [.i, .i]) x2 x4) fun x5 =>
  WB x5
  (Q .ret (mkf 19 [(0, .top), (3, .top), (4, a8), (7, .top), (8, .top), (9, .top)]) S)
  (OX (binD .add .num a8 (.i .i64 1)) fun x6 =>
  Q .normal (mkf 19 [(0, a0), (3, a3), (4, a4), (7, a7), (8, x6), (9, .top)]) S))
  (Q (.exit 0) (mkf 19 [(0, a0), (3, a3), (4, a4), (7, a7), (8, a8), (9, x1)]) S)
theorem e50_0 (cf : CallF) (a0 : D) (a3 : D) (a4 : D) (a7 : D) (a8 : D) (a9 : D) (S : Store) (Q : Ex → List D → Store → Prop) : wp cf c50_0 (fkill (mkf 19 [(0, a0), (3, a3), (4, a4), (7, a7), (8, a8), (9, a9)]) []) S Q = s50_0 cf a0 a3 a4 a7 a8 a9 S Q := wpS_of (by kernel_rfl)
def s50 (cf : CallF) (a0 : D) (a1 : D) (S : Store) (Post : D → Store → Prop) : Prop :=
  bxx 2 true a1 S fun x7 S8 =>
  OX (lenD false a0) fun x9 =>
  W cf (.loop [] c50_0) (mkf 19 [(0, a0), (3, x7), (4, .top), (7, x9), (8, (.i .i64 0)), (9, .top)]) S8 (Qblk 0 (QS cf c50_r0 (FinK [.t 4] Post)))
theorem e50 (cf : CallF) (a0 : D) (a1 : D) (S : Store) (Post : D → Store → Prop) : wp cf c50 (frame0 d50 [a0, a1]) S (FinK d50.res Post) = s50 cf a0 a1 S Post := wpS_of (by kernel_rfl)
theorem i50 (a0 : D) (a1 : D) (r : D) (ha : noRefL (stripL [a0, a1]) = true) (hr : noRef r = true) (h : s50 (call dp) (strip a0) (strip a1) [] fun d _ => stripT d = r) : isoCall (call dp) 50 [a0, a1] = some r := iso_s (f := d50) rfl ⟨rfl, by decide⟩ ha hr (by rw [← e50] at h; exact h)
/-! lineage/bdd.Variable -/
/-! lineage/bdd.Terminal -/
/-! lineage/lineagelaw11.same -/
def s27 (cf : CallF) (a0 : D) (a1 : D) (S : Store) (Post : D → Store → Prop) : Prop :=
  OX (isoCall cf 52 [a0, a1]) fun x1 =>
  Post x1 S
theorem e27 (cf : CallF) (a0 : D) (a1 : D) (S : Store) (Post : D → Store → Prop) : wp cf c27 (frame0 d27 [a0, a1]) S (FinK d27.res Post) = s27 cf a0 a1 S Post := wpS_of (by kernel_rfl)
theorem i27 (a0 : D) (a1 : D) (r : D) (ha : noRefL (stripL [a0, a1]) = true) (hr : noRef r = true) (h : s27 (call dp) (strip a0) (strip a1) [] fun d _ => stripT d = r) : isoCall (call dp) 27 [a0, a1] = some r := iso_s (f := d27) rfl ⟨rfl, by decide⟩ ha hr (by rw [← e27] at h; exact h)
end Go.Proofs.YtjlmeikcfdanmaaGreatDoor.DE

namespace Go.Proofs.YtjlmeikcfdanmaaGreatDoor.BT

noncomputable def mk (v : Nat) (l h : T) : T := if l = h then l else .node v l h

theorem mk_fn (v : Nat) (l h : T) (s : Nat → Bool) : fn (mk v l h) s = if s v then fn h s else fn l s := by
  unfold mk
  split
  · rename_i e; subst e; simp
  · rfl

theorem mk_wf {n v : Nat} {l h : T} (hv : v < n) (hl : Wf n l) (hh : Wf n h) (tl : v < top n l) (th : v < top n h) : Wf n (mk v l h) ∧ v ≤ top n (mk v l h) := by
  unfold mk
  split
  · exact ⟨hl, by omega⟩
  · rename_i e
    exact ⟨⟨hv, tl, th, e, hl, hh⟩, Nat.le_refl _⟩

/-- The function looks at the variables from v up to n only. -/
def Dep (n v : Nat) (f : (Nat → Bool) → Bool) : Prop := ∀ s r, (∀ i, v ≤ i → i < n → s i = r i) → f s = f r

theorem Dep.mono {n v w : Nat} {f : (Nat → Bool) → Bool} (h : Dep n v f) (k : w ≤ v) : Dep n w f := fun s r e => h s r fun i h1 h2 => e i (by omega) h2

noncomputable def tr (n : Nat) : Nat → ((Nat → Bool) → Bool) → T
  | 0, f => .leaf (f fun _ => false)
  | k + 1, f => mk (n - (k + 1)) (tr n k fun s => f (upd s (n - (k + 1)) false)) (tr n k fun s => f (upd s (n - (k + 1)) true))

theorem tr_wf (n : Nat) : ∀ (k : Nat) (f : (Nat → Bool) → Bool), k ≤ n → Wf n (tr n k f) ∧ n - k ≤ top n (tr n k f)
  | 0, f, _ => ⟨trivial, by simp [tr, top]⟩
  | k + 1, f, h => by
    have a := tr_wf n k (fun s => f (upd s (n - (k + 1)) false)) (by omega)
    have b := tr_wf n k (fun s => f (upd s (n - (k + 1)) true)) (by omega)
    exact mk_wf (by omega) a.1 b.1 (by omega) (by omega)

theorem upd_same (s : Nat → Bool) (v : Nat) : upd s v (s v) = s := by
  funext i
  simp only [upd]
  split
  · rename_i h; rw [h]
  · rfl

theorem tr_fn (n : Nat) : ∀ (k : Nat) (f : (Nat → Bool) → Bool), k ≤ n → Dep n (n - k) f → ∀ s, fn (tr n k f) s = f s
  | 0, f, _, hd, s => hd _ _ (by intro i h1 h2; omega)
  | k + 1, f, h, hd, s => by
    have hd' : ∀ b, Dep n (n - k) (fun s => f (upd s (n - (k + 1)) b)) := by
      intro b s r e
      refine hd _ _ fun i h1 h2 => ?_
      simp only [upd]
      split
      · rfl
      · exact e i (by omega) h2
    simp only [tr, mk_fn]
    rw [tr_fn n k _ (by omega) (hd' false), tr_fn n k _ (by omega) (hd' true)]
    split
    · rename_i e; rw [← e, upd_same]
    · rename_i e
      have : s (n - (k + 1)) = false := by simpa using e
      rw [← this, upd_same]

/-- The tree of a function of n variables. -/
noncomputable def treeOf (n : Nat) (f : (Nat → Bool) → Bool) : T := tr n n f
theorem treeOf_wf (n : Nat) (f : (Nat → Bool) → Bool) : Wf n (treeOf n f) := (tr_wf n n f (Nat.le_refl _)).1
theorem treeOf_fn {n : Nat} {f : (Nat → Bool) → Bool} (h : Dep n 0 f) (s : Nat → Bool) : fn (treeOf n f) s = f s := tr_fn n n f (Nat.le_refl _) (h.mono (by omega)) s

theorem canon' {n : Nat} {t s : T} (ht : Wf n t) (hs : Wf n s) (h : ∀ a, fn t a = fn s a) : t = s := canon _ t s (Nat.le_refl _) ht hs h

/-! Negation. -/
def swp (r : Int) : Int := if r < 2 then 1 - r else r
/-! The parts of a tree by a variable. -/
/-! Conjunction and disjunction. -/
def opb (d x y : Bool) : Bool := if d then x || y else x && y

/-- u is the tree of the operation on t and s. -/
def IsOp (n : Nat) (d : Bool) (t s u : T) : Prop := Wf n u ∧ min (top n t) (top n s) ≤ top n u ∧ ∀ a, fn u a = opb d (fn t a) (fn s a)

/-! Restriction. -/
noncomputable def resT (v : Nat) (b : Bool) : T → T
  | .leaf c => .leaf c
  | .node w l h => if w = v then (if b then resT v b h else resT v b l) else mk w (resT v b l) (resT v b h)

theorem resT_spec {n v : Nat} {b : Bool} : ∀ {t : T}, Wf n t → Wf n (resT v b t) ∧ top n t ≤ top n (resT v b t) ∧ ∀ a, fn (resT v b t) a = fn t (upd a v b)
  | .leaf c, w => ⟨w, Nat.le_refl _, fun _ => rfl⟩
  | .node x l h, w => by
    obtain ⟨l1, l2, l3⟩ := resT_spec (v := v) (b := b) w.2.2.2.2.1
    obtain ⟨h1, h2, h3⟩ := resT_spec (v := v) (b := b) w.2.2.2.2.2
    have t1 := w.2.1
    have t2 := w.2.2.1
    by_cases e : x = v
    · subst e
      cases b with
      | true => simp only [resT, if_true]; exact ⟨h1, by show x ≤ _; omega, fun a => by rw [h3]; simp [fn, upd]⟩
      | false => simp only [resT, if_true, Bool.false_eq_true, if_false]; exact ⟨l1, by show x ≤ _; omega, fun a => by rw [l3]; simp [fn, upd]⟩
    · simp only [resT, if_neg e]
      have m := mk_wf w.1 l1 h1 (by omega) (by omega)
      refine ⟨m.1, m.2, fun a => ?_⟩
      rw [mk_fn, l3, h3]
      simp [fn, upd, e]

/-- How many nodes a tree's list has at most. -/
theorem post_len {n : Nat} {t : T} (w : Wf n t) : (post t []).length + 1 ≤ 2 ^ n := by
  obtain ⟨N, e, _, _, _, z⟩ := post_spec t [] Cl_nil
  rw [e, List.nil_append]
  have a := Wf_size w
  have b : 2 ^ (n - top n t) ≤ 2 ^ n := Nat.pow_le_pow_right (by omega) (by omega)
  omega

end Go.Proofs.YtjlmeikcfdanmaaGreatDoor.BT

namespace Go.Proofs.YtjlmeikcfdanmaaGreatDoor.DE.V
open Go BT

@[simp] theorem nilck_bx (id o : Nat) : nilckD (.bx id o) = some (.bx id o) := (rfl)
@[simp] theorem mn_i (k : IntKind) (a b : Int) : mnD (.i k a) (.i k b) = some (.i k (if b < a then b else a)) := by simp [mnD]
@[simp] theorem mx_i (k : IntKind) (a b : Int) : mxD (.i k a) (.i k b) = some (.i k (if b > a then b else a)) := by simp [mxD]
@[simp] theorem bld_nil (z : List D) : bldV z [] = some z := (rfl)
theorem jn_eq {α : Type} (K : α) (X : α → Prop) : jn K X = X K := rfl
theorem jn_intro {α : Type} {K : α} {X : α → Prop} (P : α → Prop) (hK : P K) (hX : ∀ k, P k → X k) : jn K X := hX K hK

def eNdK (x : Nd) : D := .agg (eNd x)
theorem keyE_ndK : KeyE (.agg [.i, .i, .i]) eNdK := keyE_nd
/-! The entry of a key that is not there: 'mentV', 'estV'. -/
section
variable {α β : Type} [DecidableEq α] {kk : KK} {ek : α → D} {ev : β → D}
theorem posD_none (h : KeyE kk ek) (a : α) : ∀ (es : List (α × β)) (j : Nat), assoc a es = none → posD kk (ek a) (eMap ek ev es) j = some none
  | [], _, _ => rfl
  | (k, v) :: es, j, q => by
    simp only [assoc] at q
    split at q
    · cases q
    · rename_i e
      simp only [eMap, List.map_cons, posD, h a k, e, decide_false]
      exact posD_none h a es (j + 1) q

theorem mentV_new (h : KeyE kk ek) {a : α} (hk : isKey kk (ek a) = true) {z : D} {S : Store} {id : Nat} {es : List (α × β)} (hS : sget S id = some (.map (eMap ek ev es))) (ha : assoc a es = none) :
    mentV kk z S (.mp id) (ek a) = some (.tup [z, .i .i64 es.length], sset S id (.map (eMap ek ev es ++ [(ek a, z)]))) := by
  simp only [mentV, hk, if_true, hS, posD_none h a es 0 ha]
  simp [eMap]

theorem valD_last (v : D) (k : D) (u : D) : ∀ es : List (D × D), valD v es.length (es ++ [(k, u)]) = es ++ [(k, v)]
  | [] => rfl
  | e :: es => by simp [valD, valD_last v k u es]

theorem estV_new {S : Store} {id : Nat} {es : List (D × D)} {k u v : D} (hS : sget S id = some (.map (es ++ [(k, u)]))) :
    estV S (.mp id) (.i .i64 es.length) v = some (sset S id (.map (es ++ [(k, v)]))) := by
  simp only [estV, hS]
  rw [if_pos ⟨by omega, by simp; omega⟩]
  simp [valD_last]
end

/-- The maker's nodes and its map, in the variable ik; what pr names is not the maker's. -/
def MkI (ik : Nat) (pr : Nat → Prop) (M : List T) (S : Store) : Prop :=
  ∃ n o u, sget S ik = some (.box [.sl 3 n ((nds M).map eNd) o, u]) ∧ Liv S n M.length o ∧ (∀ t, o = .tok t → ¬ pr t) ∧
    ((u = .nilm ∧ M = []) ∨ ∃ iu, u = .mp iu ∧ ¬ pr iu ∧ sget S iu = some (.map (eMap eNdK eI (M.map fun s => (nd M s, code M s)))))

noncomputable def addT (M : List T) (t : T) : List T := match t with
  | .leaf _ => M
  | .node v l h => if .node v l h ∈ M then M else M ++ [.node v l h]

theorem assoc_nd {M : List T} (hM : Cl M) {v : Nat} {l h : T} (k : kids M (.node v l h)) : ∀ (N : List T), (∀ s, s ∈ N → s ∈ M) → assoc (nd M (.node v l h)) (N.map fun s => (nd M s, code M s)) = if T.node v l h ∈ N then some (code M (.node v l h)) else none
  | [], _ => by simp [assoc]
  | s :: N, hN => by
    simp only [List.map_cons, assoc, assoc_nd hM k N (fun x hx => hN x (List.mem_cons_of_mem _ hx))]
    by_cases e : T.node v l h = s
    · subst e; simp
    · have : nd M (.node v l h) ≠ nd M s := fun h' => e (nd_inj k (Cl_kids hM s (hN s (by simp))) h')
      simp [this, e]

theorem maps_snoc {M : List T} {t : T} (h : Cl (M ++ [t])) : (M ++ [t]).map (fun s => (nd (M ++ [t]) s, code (M ++ [t]) s)) = M.map (fun s => (nd M s, code M s)) ++ [(nd M t, (M.length : Int) + 2)] := by
  obtain ⟨h1, h2, h3⟩ := Cl_snoc.1 h
  rw [List.map_append]
  congr 1
  · apply List.map_congr_left
    intro s hs
    rw [nd_app [t] (Cl_kids h1 s hs), code_app [t] (sub_of h1 s hs)]
  · simp only [List.map_cons, List.map_nil, nd_app [t] h3]
    congr 2
    revert h2 h3
    cases t with
    | leaf _ => exact fun _ h => h.elim
    | node v l h =>
      intro h2 _
      simp only [code]
      rw [pos_new [] h2]

theorem v80 (ik : Nat) (pr : Nat → Prop) {M : List T} (hM : Cl M) (hl : M.length < 1000000) (v : Nat) (l h : T) (kl : sub M l) (kh : sub M h) (S : Store) (hI : MkI ik pr M S) (hmk : ¬ pr ik) (hpl : ∀ j, pr j → j < S.length) :
    ∃ S', call dp 80 [.bx ik 0, .i .i64 v, .i .i64 (code M l), .i .i64 (code M h)] S = some (.i .i64 (code (addT M (mk v l h)) (mk v l h)), S') ∧ MkI ik pr (addT M (mk v l h)) S' ∧ PresB ik S S' ∧ (∀ j e, pr j → sget S j = some e → sget S' j = some e) ∧ S.length ≤ S'.length := by
  let P : D → Store → Prop := fun r S' => r = .i .i64 (code (addT M (mk v l h)) (mk v l h)) ∧ MkI ik pr (addT M (mk v l h)) S' ∧ PresB ik S S' ∧ (∀ j e, pr j → sget S j = some e → sget S' j = some e) ∧ S.length ≤ S'.length
  obtain ⟨r, S', e, rfl, h1, h2, h3, h4⟩ := f80 (.bx ik 0) (.i .i64 v) (.i .i64 (code M l)) (.i .i64 (code M h)) S P (by
    simp only [s80, bin_eql]
    by_cases e : l = h
    · subst e
      simp
      have hm : mk v l l = l := by simp [mk]
      have ha : addT M l = M := by
        revert kl
        cases l with
        | leaf _ => intro _; rfl
        | node _ _ _ => intro k; simp only [addT]; exact if_pos k
      exact ⟨by rw [hm, ha], by rw [hm, ha]; exact hI, PresB.refl _ _, fun _ _ _ e => e, Nat.le_refl _⟩
    · have hne : ¬ code M l = code M h := fun e' => e (code_inj kl kh e')
      have hm : mk v l h = .node v l h := by simp [mk, e]
      have kk : kids M (.node v l h) := ⟨kl, kh⟩
      obtain ⟨n, o, u, j1, j2, jp, j3⟩ := hI
      have gk := sget_lt j1
      obtain ⟨c, hbin, hcu⟩ : ∃ c, binD .eql .map u .nilm = some (.b c) ∧ (c = true ↔ u = .nilm) := by
        rcases j3 with ⟨rfl, _⟩ | ⟨iu, rfl, _⟩
        · exact ⟨true, rfl, by simp⟩
        · exact ⟨false, rfl, by simp⟩
      simp [-OX_b, hne, bldV, j1, show ¬ ik = S.length by omega, hbin]
      rw [show [D.i .i64 (v : Int), .i .i64 (code M l), .i .i64 (code M h)] = eNd (nd M (.node v l h)) from rfl]
      refine jn_intro (fun (k : D → D → D → Store → Prop) => ∀ (y : D) (iu : Nat) (S15 : Store), sget S15 S.length = some (.box (eNd (nd M (.node v l h)))) → sget S15 ik = some (.box [.sl 3 n ((nds M).map eNd) o, .mp iu]) → Liv S15 n M.length o → ¬ pr iu → iu ≠ ik → iu ≠ S.length →
        sget S15 iu = some (.map (eMap eNdK eI (M.map fun s => (nd M s, code M s)))) → PresB ik S S15 → (∀ j e, pr j → sget S j = some e → sget S15 j = some e) → S.length ≤ S15.length → k (.bx ik 0) (.bx S.length 0) y S15) ?_ ?_
      · intro y iu S15 b0 b1 b2 b3 b3k b3s b4 b5 b6 b7
        have hlk := lkD'_mp keyE_ndK (a := nd M (.node v l h)) (isKey_nd _) b4 true (.i .i64 0)
        rw [assoc_nd hM kk M (fun _ h => h)] at hlk
        simp only [eNdK] at hlk
        simp [b0, b1, hlk, jn_eq]
        by_cases hin : T.node v l h ∈ M
        · simp [hin]
          have ha : addT M (mk v l h) = M := by rw [hm]; simp only [addT]; exact if_pos hin
          exact ⟨by rw [ha, hm]; rfl, by rw [ha]; exact ⟨n, o, _, b1, b2, jp, .inr ⟨iu, rfl, b3, b4⟩⟩, b5, b6, b7⟩
        · have ha : addT M (mk v l h) = M ++ [.node v l h] := by rw [hm]; simp only [addT]; exact if_neg hin
          have hc : Cl (M ++ [.node v l h]) := Cl_snoc.2 ⟨hM, hin, kk⟩
          have hlk : ((nds M).map eNd).length = M.length := by rw [List.length_map, nds_len]
          obtain ⟨t', S4, q4, l4, p4, m4, z4, zt, k4⟩ := app_liv (k := 3) (n' := false) (xs := (nds M).map eNd) (ys := [eNd (nd M (.node v l h))]) (o' := .ro) (by rw [hlk]; exact b2) (by rw [hlk]; simp [maxLenD]; omega) (by simp)
          have c0 := p4 _ _ b0
          have c1 := p4 _ _ b1
          have c4 := m4 _ _ b4
          have c6 : ∀ j e, pr j → sget S j = some e → sget S4 j = some e := fun j e hj he => k4 _ _ (b6 j e hj he) (fun t ht hjt => jp t ht (hjt ▸ hj))
          have hX : (nds M).map eNd ++ [eNd (nd M (.node v l h))] = (nds (M ++ [.node v l h])).map eNd := by rw [nds_snoc hc, List.map_append]; rfl
          rw [hX] at q4
          simp [hin, b0, b1, q4, c0, c1, nds_len]
          rw [wrap64 ⟨by omega, by omega⟩]
          have s1 : sget (sset S4 ik (.box [.sl 3 false ((nds (M ++ [.node v l h])).map eNd) (.tok t'), .mp iu])) ik = _ := sget_sset _ (sget_lt c1)
          have s0 : sget (sset S4 ik (.box [.sl 3 false ((nds (M ++ [.node v l h])).map eNd) (.tok t'), .mp iu])) S.length = _ := (sget_sset_ne _ (by omega)).trans c0
          have su : sget (sset S4 ik (.box [.sl 3 false ((nds (M ++ [.node v l h])).map eNd) (.tok t'), .mp iu])) iu = _ := (sget_sset_ne _ b3k).trans c4
          have sm : ∀ j e, pr j → sget S j = some e → sget (sset S4 ik (.box [.sl 3 false ((nds (M ++ [.node v l h])).map eNd) (.tok t'), .mp iu])) j = some e := fun j e hj he => (sget_sset_ne _ (by rintro rfl; exact hmk hj)).trans (c6 j e hj he)
          have st : sget (sset S4 ik (.box [.sl 3 false ((nds (M ++ [.node v l h])).map eNd) (.tok t'), .mp iu])) t' = _ := (sget_sset_ne _ (by rintro rfl; rw [c1] at l4; cases l4)).trans l4
          have P5 : PresB ik S (sset S4 ik (.box [.sl 3 false ((nds (M ++ [.node v l h])).map eNd) (.tok t'), .mp iu])) := fun id cs hid e => (sget_sset_ne _ hid).trans (p4 _ _ (b5 _ _ hid e))
          have z5 : (sset S4 ik (.box [.sl 3 false ((nds (M ++ [.node v l h])).map eNd) (.tok t'), .mp iu])).length = S15.length + 1 := by rw [sset_len]; exact z4
          simp only [s0]
          generalize sset S4 ik (.box [.sl 3 false ((nds (M ++ [.node v l h])).map eNd) (.tok t'), .mp iu]) = S5 at *
          have hass : assoc (nd M (.node v l h)) (M.map fun s => (nd M s, code M s)) = none := by rw [assoc_nd hM kk M (fun _ h => h), if_neg hin]
          have hme := mentV_new keyE_ndK (ev := eI) (z := .i .i64 0) (isKey_nd _) su hass
          simp only [eNdK] at hme
          have hml : (eMap eNdK eI (M.map fun s => (nd M s, code M s))).length = M.length := by simp [eMap]
          have hes : estV (sset S5 iu (Ent.map (eMap eNdK eI (M.map fun s => (nd M s, code M s)) ++ [(D.agg (eNd (nd M (.node v l h))), D.i .i64 0)]))) (.mp iu) (.i .i64 M.length) (.i .i64 ((M.length : Int) + 2)) =
              some (sset (sset S5 iu (Ent.map (eMap eNdK eI (M.map fun s => (nd M s, code M s)) ++ [(D.agg (eNd (nd M (.node v l h))), D.i .i64 0)]))) iu (Ent.map (eMap eNdK eI (M.map fun s => (nd M s, code M s)) ++ [(D.agg (eNd (nd M (.node v l h))), D.i .i64 ((M.length : Int) + 2))]))) := by
            have := estV_new (v := .i .i64 ((M.length : Int) + 2)) (sget_sset (Ent.map (eMap eNdK eI (M.map fun s => (nd M s, code M s)) ++ [(.agg (eNd (nd M (.node v l h))), .i .i64 0)])) (sget_lt su))
            rwa [hml] at this
          simp only [ldE_box, rdK_nd, OX_some, deq_self, true_and]
          rw [show (M.map fun s => (nd M s, code M s)).length = M.length by simp] at hme
          rw [hme]
          simp only [OX_some, ext_eq, List.getElem?_cons_succ, List.getElem?_cons_zero]
          rw [hes]
          simp only [OX_some]
          have hX2 : eMap eNdK eI (M.map fun s => (nd M s, code M s)) ++ [(D.agg (eNd (nd M (.node v l h))), D.i .i64 ((M.length : Int) + 2))] = eMap eNdK eI ((M ++ [T.node v l h]).map fun s => (nd (M ++ [T.node v l h]) s, code (M ++ [T.node v l h]) s)) := by
            rw [maps_snoc hc]; simp [eMap, eNdK, eI]
          rw [hX2]
          have lu := sget_lt su
          refine ⟨?_, ?_, ?_, ?_, ?_⟩
          · rw [ha, hm]
            simp only [code]
            rw [pos_new [] hin]
          · rw [ha]
            exact ⟨false, .tok t', .mp iu, (sget_sset_ne _ (Ne.symm b3k)).trans ((sget_sset_ne _ (Ne.symm b3k)).trans s1),
              .inr ⟨rfl, t', rfl, (sget_sset_ne _ (by rintro rfl; rw [su] at st; cases st)).trans ((sget_sset_ne _ (by rintro rfl; rw [su] at st; cases st)).trans st)⟩,
              (fun t ht hp => by injection ht with ht; subst ht; have := hpl _ hp; omega), .inr ⟨iu, rfl, b3, by rw [sget_sset _ (by rw [sset_len]; exact lu)]⟩⟩
          · intro id cs hid e
            have e5 := P5 _ _ hid e
            have : id ≠ iu := by rintro rfl; rw [su] at e5; cases e5
            exact (sget_sset_ne _ this).trans ((sget_sset_ne _ this).trans e5)
          · intro j e hj he
            have : j ≠ iu := by rintro rfl; exact b3 hj
            exact (sget_sset_ne _ this).trans ((sget_sset_ne _ this).trans (sm j e hj he))
          · rw [sset_len, sset_len]; omega
      · intro k hK
        rcases j3 with ⟨rfl, rfl⟩ | ⟨iu, rfl, j4, j5⟩
        · have hc : c = true := hcu.2 rfl
          subst hc
          simp [-sset_cons, show ¬ ik = S.length + 1 by omega]
          have S15 : ∀ j, j ≠ ik → j ≠ S.length → j ≠ S.length + 1 → sget (sset (Ent.map [] :: Ent.box (eNd (nd [] (.node v l h))) :: S) ik (.box [.sl 3 n ((nds []).map eNd) o, .mp (S.length + 1)])) j = sget S j := by
            intro j h1 h2 h3
            rw [sget_sset_ne _ h1]
            simp [h2, h3]
          refine hK _ (S.length + 1) _ ?_ ?_ ?_ (fun hp => by have := hpl _ hp; omega) (by omega) (by omega) ?_ ?_ ?_ (by rw [sset_len]; simp; omega)
          · rw [sget_sset_ne _ (by omega)]; simp
          · exact sget_sset _ (by simp; omega)
          · rcases j2 with j2 | ⟨l1, t, l2, l3⟩
            · exact .inl j2
            · exact .inr ⟨l1, t, l2, by rw [S15 t (by rintro rfl; rw [j1] at l3; cases l3) (by have := sget_lt l3; omega) (by have := sget_lt l3; omega)]; exact l3⟩
          · rw [sget_sset_ne _ (by omega)]; simp [eMap]
          · intro id cs hid e
            have := sget_lt e
            rw [S15 id hid (by omega) (by omega)]; exact e
          · intro j e hj he
            have := sget_lt he
            rw [S15 j (by rintro rfl; exact hmk hj) (by omega) (by omega)]; exact he
        · have hc : c = false := by rw [← Bool.not_eq_true, hcu]; intro h; cases h
          subst hc
          simp
          have giu := sget_lt j5
          exact hK _ iu _ (by simp) (sget_push j1) (j2.push _) j4 (by rintro rfl; rw [j1] at j5; cases j5) (by omega) (sget_push j5) (PresB.push _ _ _) (fun _ _ _ he => sget_push he) (by simp))
  exact ⟨S', e, h1, h2, h3, h4⟩

end Go.Proofs.YtjlmeikcfdanmaaGreatDoor.DE.V

namespace Go.Proofs.YtjlmeikcfdanmaaGreatDoor.DE.V
open Go BT

/-- What the map of what is done holds. -/
def DnI (n : Nat) (d : Bool) (La Lb M : List T) (done : List (Row × Int)) : Prop :=
  (done.map (·.1)).Nodup ∧ ∀ e, e ∈ done → ∃ t s u, sub La t ∧ sub Lb s ∧ e = ((code La t, code Lb s), code M u) ∧ sub M u ∧ IsOp n d t s u

theorem DnI.len {n : Nat} {d : Bool} {La Lb M : List T} {done : List (Row × Int)} (h : DnI n d La Lb M done) : done.length ≤ (La.length + 2) * (Lb.length + 2) := by
  have := nodup_len (L := (List.range (La.length + 2)).flatMap fun (i : Nat) => (List.range (Lb.length + 2)).map fun (j : Nat) => ((i : Int), (j : Int))) h.1 (by
    intro k hk
    obtain ⟨e, he, rfl⟩ := List.mem_map.1 hk
    obtain ⟨t, s, u, a, b, c, _, _⟩ := h.2 e he
    rw [c]
    have := code_nonneg La t
    have := code_lt a
    have := code_nonneg Lb s
    have := code_lt b
    refine List.mem_flatMap.2 ⟨(code La t).toNat, List.mem_range.2 (by omega), List.mem_map.2 ⟨(code Lb s).toNat, List.mem_range.2 (by omega), ?_⟩⟩
    rw [Int.toNat_of_nonneg (by omega), Int.toNat_of_nonneg (by omega)])
  rw [List.length_map] at this
  refine Nat.le_trans this (Nat.le_of_eq ?_)
  generalize La.length + 2 = p
  generalize Lb.length + 2 = q
  induction p with
  | zero => simp
  | succ p ih => rw [List.range_succ, List.flatMap_append, List.length_append, ih]; simp [Nat.succ_mul]

theorem sub_addT {M : List T} {v : Nat} {l h : T} (kl : sub M l) : sub (addT M (mk v l h)) (mk v l h) := by
  unfold mk
  split
  · revert kl
    cases l with
    | leaf _ => exact fun k => k
    | node _ _ _ => intro k; simp only [addT, sub] at *; rw [if_pos k]; exact k
  · simp only [addT, sub]
    split
    · assumption
    · simp

theorem addT_ext {M : List T} (hM : Cl M) {v : Nat} {l h : T} (kl : sub M l) (kh : sub M h) : (∃ N, addT M (mk v l h) = M ++ N) ∧ Cl (addT M (mk v l h)) ∧ (addT M (mk v l h)).length ≤ M.length + 1 := by
  unfold mk
  split
  · have ha : addT M l = M := by
      revert kl
      cases l with
      | leaf _ => intro _; rfl
      | node _ _ _ => intro k; simp only [addT]; exact if_pos k
    rw [ha]; exact ⟨⟨[], by simp⟩, hM, by omega⟩
  · simp only [addT]
    split
    · exact ⟨⟨[], by simp⟩, hM, by omega⟩
    · rename_i hn; exact ⟨⟨_, rfl⟩, Cl_snoc.2 ⟨hM, hn, kl, kh⟩, by simp⟩

theorem wfs {n : Nat} {L : List T} (h : ∀ t, t ∈ L → Wf n t) : ∀ {t : T}, sub L t → Wf n t
  | .leaf _, _ => trivial
  | .node _ _ _, k => h _ k

end Go.Proofs.YtjlmeikcfdanmaaGreatDoor.DE.V

namespace Go.Proofs.YtjlmeikcfdanmaaGreatDoor.DE
open Go

/-! lineage/bdd.Not -/
/-! lineage/bdd.Not$1 -/
/-! lineage/bdd.Restrict -/
def s38_r0 (cf : CallF) (a2 : D) (a3 : D) (a6 : D) (a7 : D) (a8 : D) (a9 : D) (a24 : D) (a25 : D) (a26 : D) (a27 : D) (S : Store) (Q : Ex → List D → Store → Prop) : Prop :=
  OX (faD 0 a3) fun x1 =>
  OX (ldD S 1 false x1) fun x2 =>
  OX (faD 0 a8) fun x3 =>
  OX (ldD S 1 false x3) fun x4 =>
  OX (faD 2 a3) fun x5 =>
  OX (ldD S 1 false x5) fun x6 =>
  OX (iaD 1 a9 x6) fun x7 =>
  OX (ldD S 1 false x7) fun x8 =>
  OX (isoCall cf 72 [x2, x4, x8]) fun x9 =>
  OX (stD S 3 true a6 x9) fun S11 =>
  Q .ret (mkf 66 [(2, .top), (3, .top), (6, a6), (7, .top), (8, .top), (9, .top), (24, .top), (25, .top), (26, .top), (27, .top)]) S11
theorem e38_r0 (cf : CallF) (a2 : D) (a3 : D) (a6 : D) (a7 : D) (a8 : D) (a9 : D) (a24 : D) (a25 : D) (a26 : D) (a27 : D) (S : Store) (Q : Ex → List D → Store → Prop) : wp cf c38_r0 (mkf 66 [(2, a2), (3, a3), (6, a6), (7, a7), (8, a8), (9, a9), (24, a24), (25, a25), (26, a26), (27, a27)]) S Q = s38_r0 cf a2 a3 a6 a7 a8 a9 a24 a25 a26 a27 S Q := wpS_of (by kernel_rfl)
def s38_0 (cf : CallF) (a2 : D) (a3 : D) (a6 : D) (a7 : D) (a8 : D) (a9 : D) (a24 : D) (a25 : D) (a26 : D) (a27 : D) (S : Store) (Q : Ex → List D → Store → Prop) : Prop :=
  OX (binD .lss .num a26 a25) fun x12 =>
  WB x12
  (OX (iaD 3 a24 a26) fun x13 =>
  OX (ldD S 3 true x13) fun x14 =>
  al [.i .i64 0, .i .i64 0, .i .i64 0] S fun x15 S16 =>
  OX (stD S16 3 true x15 x14) fun S18 =>
  OX (faD 1 x15) fun x19 =>
  OX (ldD S18 1 false x19) fun x20 =>
  OX (iaD 1 a9 x20) fun x21 =>
  OX (ldD S18 1 false x21) fun x22 =>
  OX (faD 2 x15) fun x23 =>
  OX (ldD S18 1 false x23) fun x24 =>
  OX (iaD 1 a9 x24) fun x25 =>
  OX (ldD S18 1 false x25) fun x26 =>
  OX (faD 0 x15) fun x27 =>
  OX (ldD S18 1 false x27) fun x28 =>
  OX (binD .eql .num x28 a7) fun x29 =>
  jn (fun (y31 : D) (y32 : D) (y33 : D) (y34 : D) (y35 : D) (y36 : D) (y37 : D) (y38 : D) (y39 : D) (y40 : D) (y41 : D) (y42 : D) (y43 : D) (S44 : Store) =>
  OX (faD 0 y37) fun x45 =>
  OX (ldD S44 1 false x45) fun x46 =>
  OX (cf 80 [y35, x46, y38, y39] S44) fun p48 =>
  OX (cellsV 1 false [p48.1]) fun x49 =>
  OX (appD 1 false y36 (.sl 1 false x49 .ro) p48.2) fun p51 =>
  OX (binD .add .num y42 (.i .i64 1)) fun x52 =>
  Q .normal (mkf 66 [(2, y31), (3, y32), (6, y33), (7, y34), (8, y35), (9, p51.1), (24, y40), (25, y41), (26, x52), (27, .top)]) p51.2) fun k30 =>
  WB x29
  (WB a2
  (k30 a2 a3 a6 a7 a8 a9 x15 x26 x26 a24 a25 a26 D.top S18)
  (k30 a2 a3 a6 a7 a8 a9 x15 x22 x22 a24 a25 a26 D.top S18))
  (k30 a2 a3 a6 a7 a8 a9 x15 x22 x26 a24 a25 a26 x29 S18))
  (Q (.exit 0) (mkf 66 [(2, a2), (3, a3), (6, a6), (7, a7), (8, a8), (9, a9), (24, a24), (25, a25), (26, a26), (27, x12)]) S)
theorem e38_0 (cf : CallF) (a2 : D) (a3 : D) (a6 : D) (a7 : D) (a8 : D) (a9 : D) (a24 : D) (a25 : D) (a26 : D) (a27 : D) (S : Store) (Q : Ex → List D → Store → Prop) : wp cf c38_0 (fkill (mkf 66 [(2, a2), (3, a3), (6, a6), (7, a7), (8, a8), (9, a9), (24, a24), (25, a25), (26, a26), (27, a27)]) []) S Q = s38_0 cf a2 a3 a6 a7 a8 a9 a24 a25 a26 a27 S Q := wpS_of (by kernel_rfl)
def s38 (cf : CallF) (a0 : D) (a1 : D) (a2 : D) (S : Store) (Post : D → Store → Prop) : Prop :=
  bxx 3 true a0 S fun x53 S54 =>
  bxx 2 true a1 S54 fun x55 S56 =>
  al [.sl 2 true [] .ro, .sl 3 true [] .ro, .i .i64 0] S56 fun x57 S58 =>
  OX (ldD S58 3 true x53) fun x59 =>
  OX (isoCall cf 33 [x59]) fun x60 =>
  OX (unD .not x60) fun x61 =>
  WB x61
  (OX (bldV [.sl 2 true [] .ro, .sl 3 true [] .ro, .i .i64 0] []) fun x62 =>
  OX (stD S58 3 true x57 (.agg x62)) fun S64 =>
  OX (ldc S64 3 true x57) fun x65 => Post x65 S64)
  (OX (faD 0 x53) fun x66 =>
  OX (ldD S58 1 false x66) fun x67 =>
  OX (ldD S58 2 true x55) fun x68 =>
  OX (isoCall cf 50 [x67, x68]) fun x69 =>
  al [.sl 3 true [] .ro, .nilm] S58 fun x70 S71 =>
  OX (cellsV 1 false [(.i .i64 0), (.i .i64 1)]) fun x72 =>
  OX (faD 1 x53) fun x73 =>
  OX (ldD (bslO 1 x72 S71).2 1 false x73) fun x74 =>
  OX (lenD false x74) fun x75 =>
  W cf (.loop [] c38_0) (mkf 66 [(2, a2), (3, x53), (6, x57), (7, x69), (8, x70), (9, (bslO 1 x72 S71).1), (24, x74), (25, x75), (26, (.i .i64 0)), (27, .top)]) (bslO 1 x72 S71).2 (Qblk 0 (QS cf c38_r0 (FinK [.cell 6 3 true] Post))))
theorem e38 (cf : CallF) (a0 : D) (a1 : D) (a2 : D) (S : Store) (Post : D → Store → Prop) : wp cf c38 (frame0 d38 [a0, a1, a2]) S (FinK d38.res Post) = s38 cf a0 a1 a2 S Post := wpS_of (by kernel_rfl)
theorem i38 (a0 : D) (a1 : D) (a2 : D) (r : D) (ha : noRefL (stripL [a0, a1, a2]) = true) (hr : noRef r = true) (h : s38 (call dp) (strip a0) (strip a1) (strip a2) [] fun d _ => stripT d = r) : isoCall (call dp) 38 [a0, a1, a2] = some r := iso_s (f := d38) rfl ⟨rfl, by decide⟩ ha hr (by rw [← e38] at h; exact h)
theorem j38 (a0 : D) (a1 : D) (a2 : D) (Post : D → Prop) (ha : noRefL (stripL [a0, a1, a2]) = true) (hr : ∀ r, Post r → noRef r = true) (h : s38 (call dp) (strip a0) (strip a1) (strip a2) [] fun d _ => Post (stripT d)) : ∃ r, isoCall (call dp) 38 [a0, a1, a2] = some r ∧ Post r := iso_x (f := d38) rfl ⟨rfl, by decide⟩ ha hr (by rw [← e38] at h; exact h)
/-! lineage/lineagelaw11.BddBoolean -/
end Go.Proofs.YtjlmeikcfdanmaaGreatDoor.DE

namespace Go.Proofs.YtjlmeikcfdanmaaGreatDoor.DE.V
open Go BT

/-- The index of a row, or -1. -/
def ixOf (r : Row) : List Row → Int
  | [] => -1
  | x :: l => if x = r then 0 else if ixOf r l < 0 then -1 else ixOf r l + 1

theorem ixOf_none {r : Row} : ∀ {l : List Row}, r ∉ l → ixOf r l = -1
  | [], _ => rfl
  | x :: l, h => by
    simp only [List.mem_cons, not_or] at h
    simp [ixOf, Ne.symm h.1, ixOf_none h.2]

theorem ixOf_found {r : Row} : ∀ {l : List Row} {k : Nat}, l[k]? = some r → r ∉ l.take k → ixOf r l = k
  | [], _, h, _ => by simp at h
  | x :: l, 0, h, _ => by simp at h; simp [ixOf, h]
  | x :: l, k + 1, h, hn => by
    simp only [List.take_succ_cons, List.mem_cons, not_or] at hn
    have := ixOf_found (l := l) (k := k) (by simpa using h) hn.2
    simp [ixOf, Ne.symm hn.1, this]
    omega

theorem v50 (nl : Bool) (l : List Row) (r : Row) (hb : Bd l.length) : isoCall (call dp) 50 [eRows nl l, .agg (eRow r)] = some (.i .i64 (ixOf r l)) := by
  apply i50 _ _ _ (by simp [noRefL]) rfl
  simp [s50]
  let J : Nat → List D → Store → Prop := fun q fr S => ∃ k a4 a9, k + q = l.length ∧ r ∉ l.take k ∧ S = [Ent.box (eRow r)] ∧ fr = mkf 19 [(0, eRows nl l), (3, .bx 0 0), (4, a4), (7, .i .i64 l.length), (8, .i .i64 k), (9, a9)]
  refine W_loop J ?_ l.length _ _ ⟨0, _, _, by simp, by simp, rfl, rfl⟩
  rintro q fr S ⟨k, a4, a9, hk, hn, rfl, rfl⟩
  rw [← wp_W, e50_0]
  simp [s50_0]
  by_cases h : k < l.length
  · obtain ⟨x, hx⟩ : ∃ x, l[k]? = some x := ⟨_, List.getElem?_eq_getElem (by omega)⟩
    simp [h, iaD_rows _ hx]
    by_cases e : r = x
    · subst e
      simp [ixOf_found hx hn]
    · simp [e, wrapS (hb.lt (Nat.le_of_lt h))]
      refine ⟨q - 1, by omega, k + 1, _, _, by omega, ?_, rfl, rfl⟩
      rw [take_snoc hx]
      simp [hn, e]
  · have : l.take k = l := List.take_of_length_le (by omega)
    rw [this] at hn
    simp [h, e50_r0, s50_r0, ixOf_none hn]

/-- The empty diagram. -/
def zB : D := eB true true [] [] 0
end Go.Proofs.YtjlmeikcfdanmaaGreatDoor.DE.V

namespace Go.Proofs.YtjlmeikcfdanmaaGreatDoor.DE.V
open Go BT

/-- A valid diagram and its tree. -/
def VT (ord : List Row) (ns : List Nd) (root : Int) (t : T) : Prop :=
  (OrdOk ord ∧ ord.length ≤ 4096) ∧ Wf ord.length t ∧ ns = nds (post t []) ∧ root = code (post t []) t ∧ (post t []).length ≤ 4096

theorem post_nil (t : T) : Cl (post t []) ∧ sub (post t []) t ∧ ∀ n, Wf n t → ∀ s, s ∈ post t [] → Wf n s := by
  obtain ⟨N, e, c, s, p, _⟩ := post_spec t [] Cl_nil
  rw [List.nil_append] at e c s
  rw [e]
  exact ⟨c, s, fun n hw s hs => p _ (Wf_her n) hw s hs⟩

theorem VB_VT {ord : List Row} {ns : List Nd} {root : Int} : VB ord ns root ↔ ∃ t, VT ord ns root t := by
  constructor
  · rintro ⟨ho, hl, ⟨hs, _, _⟩, t, e1, e2⟩
    obtain ⟨L, hL, e, hw⟩ := Sh_trees hs
    obtain ⟨c, s, _⟩ := post_nil t
    have : L = post t [] := nds_inj hL c (by rw [← e, e1])
    subst this
    refine ⟨t, ho, wfs hw s, e1, e2, ?_⟩
    rw [e1, nds_len] at hl; exact hl
  · rintro ⟨t, ho, hw, rfl, rfl, hl⟩
    obtain ⟨c, s, w⟩ := post_nil t
    refine ⟨ho, by rw [nds_len]; exact hl, ⟨trees_Sh c (w _ hw), code_nonneg _ _, by rw [nds_len]; exact code_lt s⟩, t, rfl, rfl⟩

theorem strip_idem : ∀ d : D, strip (strip d) = strip d := by
  intro d
  cases d with
  | agg cs =>
    simp only [strip]
    congr 1
    induction cs with
    | nil => rfl
    | cons c cs ih =>
      simp only [strip1L, ih]
      congr 1
      cases c <;> rfl
  | _ => rfl

theorem stripL_idem : ∀ l : List D, stripL (stripL l) = stripL l
  | [] => rfl
  | x :: l => by simp [stripL, strip_idem, stripL_idem l]

theorem isoCall_strip (cf : CallF) (g : Nat) (args : List D) : isoCall cf g args = isoCall cf g (stripL args) := by
  simp only [isoCall, stripL_idem]

theorem small {n : Nat} (h : n ≤ 7) {t : T} (w : Wf n t) : (post t []).length ≤ 127 := by
  have a := post_len w
  have b : 2 ^ n ≤ 2 ^ 7 := Nat.pow_le_pow_right (by omega) h
  simp at b
  omega

/-- The diagram of a tree. -/
noncomputable def eT (na n : Bool) (o : List Row) (t : T) : D := eB na n o (nds (post t [])) (code (post t []) t)

/-- What may be nil. -/
def nlOk (na : Bool) (o : List Row) : Prop := na = true → o = []

theorem VT_eT {o : List Row} {t : T} (ho : OrdOk o) (h7 : o.length ≤ 7) (w : Wf o.length t) : VT o (nds (post t [])) (code (post t []) t) t :=
  ⟨⟨ho, by omega⟩, w, rfl, rfl, by have := small h7 w; omega⟩

/-! Negation. -/
end Go.Proofs.YtjlmeikcfdanmaaGreatDoor.DE.V

namespace Go.Proofs.YtjlmeikcfdanmaaGreatDoor.DE
open Go

/-! lineage/lineageref11.Index -/
def s15_r0 (cf : CallF) (a0 : D) (a3 : D) (a4 : D) (a5 : D) (a9 : D) (S : Store) (Q : Ex → List D → Store → Prop) : Prop :=
  Q .ret (mkf 19 [(0, .top), (3, .top), (4, (.i .i64 (-1))), (5, .top), (9, .top)]) S
theorem e15_r0 (cf : CallF) (a0 : D) (a3 : D) (a4 : D) (a5 : D) (a9 : D) (S : Store) (Q : Ex → List D → Store → Prop) : wp cf c15_r0 (mkf 19 [(0, a0), (3, a3), (4, a4), (5, a5), (9, a9)]) S Q = s15_r0 cf a0 a3 a4 a5 a9 S Q := wpS_of (by kernel_rfl)
def s15_0 (cf : CallF) (a0 : D) (a3 : D) (a4 : D) (a5 : D) (a9 : D) (S : Store) (Q : Ex → List D → Store → Prop) : Prop :=
  OX (lenD false a0) fun x1 =>
  OX (binD .lss .num a5 x1) fun x2 =>
  WB x2
  (OX (iaD 2 a0 a5) fun x3 =>
  OX (ldD S 2 true x3) fun x4 =>
  OX (ldD S 2 true a3) fun x5 =>
  OX (binD .eql (.agg [.i, .i]) x4 x5) fun x6 =>
  WB x6
  (Q .ret (mkf 19 [(0, .top), (3, .top), (4, a5), (5, .top), (9, .top)]) S)
  (OX (binD .add .num a5 (.i .i64 1)) fun x7 =>
  Q .normal (mkf 19 [(0, a0), (3, a3), (4, a4), (5, x7), (9, .top)]) S))
  (Q (.exit 0) (mkf 19 [(0, a0), (3, a3), (4, a4), (5, a5), (9, x2)]) S)
theorem e15_0 (cf : CallF) (a0 : D) (a3 : D) (a4 : D) (a5 : D) (a9 : D) (S : Store) (Q : Ex → List D → Store → Prop) : wp cf c15_0 (fkill (mkf 19 [(0, a0), (3, a3), (4, a4), (5, a5), (9, a9)]) []) S Q = s15_0 cf a0 a3 a4 a5 a9 S Q := wpS_of (by kernel_rfl)
def s15 (cf : CallF) (a0 : D) (a1 : D) (S : Store) (Post : D → Store → Prop) : Prop :=
  bxx 2 true a1 S fun x8 S9 =>
  W cf (.loop [] c15_0) (mkf 19 [(0, a0), (3, x8), (4, .top), (5, (.i .i64 0)), (9, .top)]) S9 (Qblk 0 (QS cf c15_r0 (FinK [.t 4] Post)))
theorem e15 (cf : CallF) (a0 : D) (a1 : D) (S : Store) (Post : D → Store → Prop) : wp cf c15 (frame0 d15 [a0, a1]) S (FinK d15.res Post) = s15 cf a0 a1 S Post := wpS_of (by kernel_rfl)
theorem i15 (a0 : D) (a1 : D) (r : D) (ha : noRefL (stripL [a0, a1]) = true) (hr : noRef r = true) (h : s15 (call dp) (strip a0) (strip a1) [] fun d _ => stripT d = r) : isoCall (call dp) 15 [a0, a1] = some r := iso_s (f := d15) rfl ⟨rfl, by decide⟩ ha hr (by rw [← e15] at h; exact h)
/-! lineage/lineageref11.FromTable -/
def s18 (cf : CallF) (a0 : D) (a1 : D) (S : Store) (Post : D → Store → Prop) : Prop :=
  al [.sl 2 true [] .ro, .sl 3 true [] .ro, .i .i64 0] S fun x1 S2 =>
  OX (lenD false a0) fun x3 =>
  OX (cellsV 3 true []) fun x4 =>
  OX (cf 53 [a1, x3, (.i .i64 0), (.i .i64 0), (bslO 3 x4 S2).1] (bslO 3 x4 S2).2) fun p6 =>
  OX (extD p6.1 0) fun x7 =>
  OX (extD p6.1 1) fun x8 =>
  OX (bldV [.sl 2 true [] .ro, .sl 3 true [] .ro, .i .i64 0] [(0, 1, false, a0), (1, 1, false, x8), (2, 1, false, x7)]) fun x9 =>
  OX (stD p6.2 3 true x1 (.agg x9)) fun S11 =>
  OX (ldc S11 3 true x1) fun x12 => Post x12 S11
theorem e18 (cf : CallF) (a0 : D) (a1 : D) (S : Store) (Post : D → Store → Prop) : wp cf c18 (frame0 d18 [a0, a1]) S (FinK d18.res Post) = s18 cf a0 a1 S Post := wpS_of (by kernel_rfl)
theorem i18 (a0 : D) (a1 : D) (r : D) (ha : noRefL (stripL [a0, a1]) = true) (hr : noRef r = true) (h : s18 (call dp) (strip a0) (strip a1) [] fun d _ => stripT d = r) : isoCall (call dp) 18 [a0, a1] = some r := iso_s (f := d18) rfl ⟨rfl, by decide⟩ ha hr (by rw [← e18] at h; exact h)
/-! lineage/lineageref11.build -/
def s53_r0 (cf : CallF) (a4 : D) (a10 : D) (a11 : D) (a14 : D) (a15 : D) (a62 : D) (S : Store) (Q : Ex → List D → Store → Prop) : Prop :=
  OX (lenD false a4) fun x1 =>
  OX (binD .add .num x1 (.i .i64 2)) fun x2 =>
  OX (ldD S 3 true a14) fun x3 =>
  OX (cellsV 3 true [x3]) fun x4 =>
  OX (appD 3 false a4 (.sl 3 false x4 .ro) S) fun p6 =>
  Q .ret (mkf 81 [(4, .top), (10, x2), (11, p6.1), (14, .top), (15, .top), (62, .top)]) p6.2
theorem e53_r0 (cf : CallF) (a4 : D) (a10 : D) (a11 : D) (a14 : D) (a15 : D) (a62 : D) (S : Store) (Q : Ex → List D → Store → Prop) : wp cf c53_r0 (mkf 81 [(4, a4), (10, a10), (11, a11), (14, a14), (15, a15), (62, a62)]) S Q = s53_r0 cf a4 a10 a11 a14 a15 a62 S Q := wpS_of (by kernel_rfl)
def s53_0 (cf : CallF) (a4 : D) (a10 : D) (a11 : D) (a14 : D) (a15 : D) (a62 : D) (S : Store) (Q : Ex → List D → Store → Prop) : Prop :=
  OX (lenD false a4) fun x7 =>
  OX (binD .lss .num a15 x7) fun x8 =>
  WB x8
  (OX (iaD 3 a4 a15) fun x9 =>
  OX (ldD S 3 true x9) fun x10 =>
  OX (ldD S 3 true a14) fun x11 =>
  OX (binD .eql (.agg [.i, .i, .i]) x10 x11) fun x12 =>
  WB x12
  (OX (binD .add .num a15 (.i .i64 2)) fun x13 =>
  Q .ret (mkf 81 [(4, .top), (10, x13), (11, a4), (14, .top), (15, .top), (62, .top)]) S)
  (OX (binD .add .num a15 (.i .i64 1)) fun x14 =>
  Q .normal (mkf 81 [(4, a4), (10, a10), (11, a11), (14, a14), (15, x14), (62, .top)]) S))
  (Q (.exit 0) (mkf 81 [(4, a4), (10, a10), (11, a11), (14, a14), (15, a15), (62, x8)]) S)
theorem e53_0 (cf : CallF) (a4 : D) (a10 : D) (a11 : D) (a14 : D) (a15 : D) (a62 : D) (S : Store) (Q : Ex → List D → Store → Prop) : wp cf c53_0 (fkill (mkf 81 [(4, a4), (10, a10), (11, a11), (14, a14), (15, a15), (62, a62)]) []) S Q = s53_0 cf a4 a10 a11 a14 a15 a62 S Q := wpS_of (by kernel_rfl)
def s53 (cf : CallF) (a0 : D) (a1 : D) (a2 : D) (a3 : D) (a4 : D) (S : Store) (Post : D → Store → Prop) : Prop :=
  OX (isoCall cf 93 [a0, a1, a2, a3]) fun x15 =>
  WB x15
  (OX (iaD 1 a0 a3) fun x16 =>
  OX (ldD S 1 false x16) fun x17 =>
  WB x17
  (Post (.tup [(.i .i64 1), a4]) S)
  (Post (.tup [(.i .i64 0), a4]) S))
  (OX (binD .add .num a2 (.i .i64 1)) fun x18 =>
  OX (cf 53 [a0, a1, x18, a3, a4] S) fun p20 =>
  OX (extD p20.1 0) fun x21 =>
  OX (extD p20.1 1) fun x22 =>
  OX (binD .add .num a2 (.i .i64 1)) fun x23 =>
  OX (binD .shl .num (.i .i64 1) a2) fun x24 =>
  OX (binD .add .num a3 x24) fun x25 =>
  OX (cf 53 [a0, a1, x23, x25, x22] p20.2) fun p27 =>
  OX (extD p27.1 0) fun x28 =>
  OX (extD p27.1 1) fun x29 =>
  OX (binD .eql .num x21 x28) fun x30 =>
  WB x30
  (Post (.tup [x21, x29]) p27.2)
  (OX (bldV [.i .i64 0, .i .i64 0, .i .i64 0] [(0, 1, false, a2), (1, 1, false, x21), (2, 1, false, x28)]) fun x31 =>
  al [.i .i64 0, .i .i64 0, .i .i64 0] p27.2 fun x32 S33 =>
  OX (stD S33 3 true x32 (.agg x31)) fun S35 =>
  W cf (.loop [] c53_0) (mkf 81 [(4, x29), (10, .top), (11, .top), (14, x32), (15, (.i .i64 0)), (62, .top)]) S35 (Qblk 0 (QS cf c53_r0 (FinK [.t 10, .t 11] Post)))))
theorem e53 (cf : CallF) (a0 : D) (a1 : D) (a2 : D) (a3 : D) (a4 : D) (S : Store) (Post : D → Store → Prop) : wp cf c53 (frame0 d53 [a0, a1, a2, a3, a4]) S (FinK d53.res Post) = s53 cf a0 a1 a2 a3 a4 S Post := wpS_of (by kernel_rfl)
theorem f53 (a0 : D) (a1 : D) (a2 : D) (a3 : D) (a4 : D) (S : Store) (Post : D → Store → Prop) (h : s53 (call dp) a0 a1 a2 a3 a4 S Post) : ∃ r S', call dp 53 [a0, a1, a2, a3, a4] S = some (r, S') ∧ Post r S' := call_s (f := d53) rfl ⟨rfl, by decide⟩ (by rw [← e53] at h; exact h)

/-! lineage/lineageref11.constant -/
def s93_r0 (cf : CallF) (a0 : D) (a1 : D) (a2 : D) (a3 : D) (a8 : D) (a9 : D) (a13 : D) (S : Store) (Q : Ex → List D → Store → Prop) : Prop :=
  Q .ret (mkf 33 [(0, .top), (1, .top), (2, .top), (3, .top), (8, (.b true)), (9, .top), (13, .top)]) S
theorem e93_r0 (cf : CallF) (a0 : D) (a1 : D) (a2 : D) (a3 : D) (a8 : D) (a9 : D) (a13 : D) (S : Store) (Q : Ex → List D → Store → Prop) : wp cf c93_r0 (mkf 33 [(0, a0), (1, a1), (2, a2), (3, a3), (8, a8), (9, a9), (13, a13)]) S Q = s93_r0 cf a0 a1 a2 a3 a8 a9 a13 S Q := wpS_of (by kernel_rfl)
def s93_0 (cf : CallF) (a0 : D) (a1 : D) (a2 : D) (a3 : D) (a8 : D) (a9 : D) (a13 : D) (S : Store) (Q : Ex → List D → Store → Prop) : Prop :=
  OX (binD .shl .num (.i .i64 1) a1) fun x1 =>
  OX (binD .lss .num a9 x1) fun x2 =>
  WB x2
  (OX (binD .shl .num (.i .i64 1) a2) fun x3 =>
  OX (binD .rem .num a9 x3) fun x4 =>
  OX (binD .eql .num x4 a3) fun x5 =>
  OX (gsel x5 true (some a0)) fun x6 =>
  OX (gsel x5 true (some a9)) fun x7 =>
  OX (gsel x5 true (iaD 1 x6 x7)) fun x8 =>
  OX (gsel x5 true (ldD S 1 false x8)) fun x9 =>
  OX (gsel x5 true (some a0)) fun x10 =>
  OX (gsel x5 true (some a3)) fun x11 =>
  OX (gsel x5 true (iaD 1 x10 x11)) fun x12 =>
  OX (gsel x5 true (ldD S 1 false x12)) fun x13 =>
  OX (gsel x5 true (binD .neq .bool x9 x13)) fun x14 =>
  OX (pickD x5 x14 (.b false)) fun x15 =>
  WB x15
  (Q .ret (mkf 33 [(0, .top), (1, .top), (2, .top), (3, .top), (8, (.b false)), (9, .top), (13, .top)]) S)
  (OX (binD .add .num a9 (.i .i64 1)) fun x16 =>
  Q .normal (mkf 33 [(0, a0), (1, a1), (2, a2), (3, a3), (8, a8), (9, x16), (13, .top)]) S))
  (Q (.exit 0) (mkf 33 [(0, a0), (1, a1), (2, a2), (3, a3), (8, a8), (9, a9), (13, x2)]) S)
theorem e93_0 (cf : CallF) (a0 : D) (a1 : D) (a2 : D) (a3 : D) (a8 : D) (a9 : D) (a13 : D) (S : Store) (Q : Ex → List D → Store → Prop) : wp cf c93_0 (fkill (mkf 33 [(0, a0), (1, a1), (2, a2), (3, a3), (8, a8), (9, a9), (13, a13)]) []) S Q = s93_0 cf a0 a1 a2 a3 a8 a9 a13 S Q := wpS_of (by kernel_rfl)
def s93 (cf : CallF) (a0 : D) (a1 : D) (a2 : D) (a3 : D) (S : Store) (Post : D → Store → Prop) : Prop :=
  W cf (.loop [] c93_0) (mkf 33 [(0, a0), (1, a1), (2, a2), (3, a3), (8, .top), (9, (.i .i64 0)), (13, .top)]) S (Qblk 0 (QS cf c93_r0 (FinK [.t 8] Post)))
theorem e93 (cf : CallF) (a0 : D) (a1 : D) (a2 : D) (a3 : D) (S : Store) (Post : D → Store → Prop) : wp cf c93 (frame0 d93 [a0, a1, a2, a3]) S (FinK d93.res Post) = s93 cf a0 a1 a2 a3 S Post := wpS_of (by kernel_rfl)
theorem i93 (a0 : D) (a1 : D) (a2 : D) (a3 : D) (r : D) (ha : noRefL (stripL [a0, a1, a2, a3]) = true) (hr : noRef r = true) (h : s93 (call dp) (strip a0) (strip a1) (strip a2) (strip a3) [] fun d _ => stripT d = r) : isoCall (call dp) 93 [a0, a1, a2, a3] = some r := iso_s (f := d93) rfl ⟨rfl, by decide⟩ ha hr (by rw [← e93] at h; exact h)
/-! lineage/lineageref11.Table -/
def s25_r0 (cf : CallF) (a1 : D) (a2 : D) (a3 : D) (a4 : D) (a11 : D) (S : Store) (Q : Ex → List D → Store → Prop) : Prop :=
  Q .ret (mkf 23 [(1, .top), (2, a3), (3, .top), (4, .top), (11, .top)]) S
theorem e25_r0 (cf : CallF) (a1 : D) (a2 : D) (a3 : D) (a4 : D) (a11 : D) (S : Store) (Q : Ex → List D → Store → Prop) : wp cf c25_r0 (mkf 23 [(1, a1), (2, a2), (3, a3), (4, a4), (11, a11)]) S Q = s25_r0 cf a1 a2 a3 a4 a11 S Q := wpS_of (by kernel_rfl)
def s25_0 (cf : CallF) (a1 : D) (a2 : D) (a3 : D) (a4 : D) (a11 : D) (S : Store) (Q : Ex → List D → Store → Prop) : Prop :=
  OX (faD 0 a1) fun x1 =>
  OX (ldD S 1 false x1) fun x2 =>
  OX (lenD false x2) fun x3 =>
  OX (binD .shl .num (.i .i64 1) x3) fun x4 =>
  OX (binD .lss .num a4 x4) fun x5 =>
  WB x5
  (OX (ldD S 3 true a1) fun x6 =>
  OX (faD 2 a1) fun x7 =>
  OX (ldD S 1 false x7) fun x8 =>
  OX (isoCall cf 58 [x6, x8, a4]) fun x9 =>
  OX (cellsV 1 false [x9]) fun x10 =>
  OX (appD 1 false a3 (.sl 1 false x10 .ro) S) fun p12 =>
  OX (binD .add .num a4 (.i .i64 1)) fun x13 =>
  Q .normal (mkf 23 [(1, a1), (2, a2), (3, p12.1), (4, x13), (11, .top)]) p12.2)
  (Q (.exit 0) (mkf 23 [(1, a1), (2, a2), (3, a3), (4, a4), (11, x5)]) S)
theorem e25_0 (cf : CallF) (a1 : D) (a2 : D) (a3 : D) (a4 : D) (a11 : D) (S : Store) (Q : Ex → List D → Store → Prop) : wp cf c25_0 (fkill (mkf 23 [(1, a1), (2, a2), (3, a3), (4, a4), (11, a11)]) []) S Q = s25_0 cf a1 a2 a3 a4 a11 S Q := wpS_of (by kernel_rfl)
def s25 (cf : CallF) (a0 : D) (S : Store) (Post : D → Store → Prop) : Prop :=
  bxx 3 true a0 S fun x14 S15 =>
  OX (cellsV 1 false []) fun x16 =>
  W cf (.loop [] c25_0) (mkf 23 [(1, x14), (2, .top), (3, (bslO 1 x16 S15).1), (4, (.i .i64 0)), (11, .top)]) (bslO 1 x16 S15).2 (Qblk 0 (QS cf c25_r0 (FinK [.t 2] Post)))
theorem e25 (cf : CallF) (a0 : D) (S : Store) (Post : D → Store → Prop) : wp cf c25 (frame0 d25 [a0]) S (FinK d25.res Post) = s25 cf a0 S Post := wpS_of (by kernel_rfl)
theorem i25 (a0 : D) (r : D) (ha : noRefL (stripL [a0]) = true) (hr : noRef r = true) (h : s25 (call dp) (strip a0) [] fun d _ => stripT d = r) : isoCall (call dp) 25 [a0] = some r := iso_s (f := d25) rfl ⟨rfl, by decide⟩ ha hr (by rw [← e25] at h; exact h)
/-! lineage/lineageref11.value -/
def s58_r0 (cf : CallF) (a1 : D) (a2 : D) (a3 : D) (a6 : D) (a7 : D) (a9 : D) (a23 : D) (S : Store) (Q : Ex → List D → Store → Prop) : Prop :=
  OX (binD .eql .num a1 (.i .i64 1)) fun x1 =>
  Q .ret (mkf 28 [(1, .top), (2, .top), (3, .top), (6, x1), (7, a7), (9, .top), (23, a23)]) S
theorem e58_r0 (cf : CallF) (a1 : D) (a2 : D) (a3 : D) (a6 : D) (a7 : D) (a9 : D) (a23 : D) (S : Store) (Q : Ex → List D → Store → Prop) : wp cf c58_r0 (mkf 28 [(1, a1), (2, a2), (3, a3), (6, a6), (7, a7), (9, a9), (23, a23)]) S Q = s58_r0 cf a1 a2 a3 a6 a7 a9 a23 S Q := wpS_of (by kernel_rfl)
def s58_0 (cf : CallF) (a1 : D) (a2 : D) (a3 : D) (a6 : D) (a7 : D) (a9 : D) (a23 : D) (S : Store) (Q : Ex → List D → Store → Prop) : Prop :=
  OX (binD .geq .num a1 (.i .i64 2)) fun x2 =>
  WB x2
  (OX (faD 1 a3) fun x3 =>
  OX (ldD S 1 false x3) fun x4 =>
  OX (binD .sub .num a1 (.i .i64 2)) fun x5 =>
  OX (iaD 3 x4 x5) fun x6 =>
  OX (ldD S 3 true x6) fun x7 =>
  al [.i .i64 0, .i .i64 0, .i .i64 0] S fun x8 S9 =>
  OX (stD S9 3 true x8 x7) fun S11 =>
  OX (faD 1 x8) fun x12 =>
  OX (ldD S11 1 false x12) fun x13 =>
  OX (faD 0 x8) fun x14 =>
  OX (ldD S11 1 false x14) fun x15 =>
  OX (binD .shr .num a2 x15) fun x16 =>
  OX (binD .rem .num x16 (.i .i64 2)) fun x17 =>
  OX (binD .eql .num x17 (.i .i64 1)) fun x18 =>
  jn (fun (y20 : D) (y21 : D) (y22 : D) (y23 : D) (y24 : D) (y25 : D) (S26 : Store) =>
  Q .normal (mkf 28 [(1, y20), (2, y21), (3, y22), (6, y23), (7, y24), (9, .top), (23, y25)]) S26) fun k19 =>
  WB x18
  (OX (faD 2 x8) fun x27 =>
  OX (ldD S11 1 false x27) fun x28 =>
  k19 x28 a2 a3 a6 D.top D.top S11)
  (k19 x13 a2 a3 a6 x8 x18 S11))
  (Q (.exit 0) (mkf 28 [(1, a1), (2, a2), (3, a3), (6, a6), (7, .top), (9, x2), (23, .top)]) S)
theorem e58_0 (cf : CallF) (a1 : D) (a2 : D) (a3 : D) (a6 : D) (a7 : D) (a9 : D) (a23 : D) (S : Store) (Q : Ex → List D → Store → Prop) : wp cf c58_0 (fkill (mkf 28 [(1, a1), (2, a2), (3, a3), (6, a6), (7, a7), (9, a9), (23, a23)]) [7, 23]) S Q = s58_0 cf a1 a2 a3 a6 a7 a9 a23 S Q := wpS_of (by kernel_rfl)
def s58 (cf : CallF) (a0 : D) (a1 : D) (a2 : D) (S : Store) (Post : D → Store → Prop) : Prop :=
  bxx 3 true a0 S fun x29 S30 =>
  W cf (.loop [7, 23] c58_0) (mkf 28 [(1, a1), (2, a2), (3, x29), (6, .top), (7, .top), (9, .top), (23, .top)]) S30 (Qblk 0 (QS cf c58_r0 (FinK [.t 6] Post)))
theorem e58 (cf : CallF) (a0 : D) (a1 : D) (a2 : D) (S : Store) (Post : D → Store → Prop) : wp cf c58 (frame0 d58 [a0, a1, a2]) S (FinK d58.res Post) = s58 cf a0 a1 a2 S Post := wpS_of (by kernel_rfl)
theorem i58 (a0 : D) (a1 : D) (a2 : D) (r : D) (ha : noRefL (stripL [a0, a1, a2]) = true) (hr : noRef r = true) (h : s58 (call dp) (strip a0) (strip a1) (strip a2) [] fun d _ => stripT d = r) : isoCall (call dp) 58 [a0, a1, a2] = some r := iso_s (f := d58) rfl ⟨rfl, by decide⟩ ha hr (by rw [← e58] at h; exact h)
/-! lineage/lineageref11.Not -/
/-! lineage/lineageref11.And -/
/-! lineage/lineageref11.Or -/
/-! lineage/lineageref11.Constant -/
/-! lineage/lineageref11.Single -/
/-! lineage/lineagelaw11.BddOperations -/
end Go.Proofs.YtjlmeikcfdanmaaGreatDoor.DE

namespace Go.Proofs.YtjlmeikcfdanmaaGreatDoor.BT

def bitsA (b : Nat) : Nat → Bool := fun i => b.testBit i
def mix (v b : Nat) (s : Nat → Bool) : Nat → Bool := fun i => if i < v then b.testBit i else s i

theorem mix_zero (b : Nat) (s : Nat → Bool) : mix 0 b s = s := by funext i; simp [mix]

theorem mix_lo {v b : Nat} (hb : b < 2 ^ v) (s : Nat → Bool) : mix v b (upd s v false) = mix (v + 1) b s := by
  funext i
  simp only [mix, upd]
  by_cases h : i < v
  · simp [h, show i < v + 1 by omega]
  · by_cases e : i = v
    · subst e; simp [Nat.testBit_lt_two_pow hb]
    · simp [h, e, show ¬ i < v + 1 by omega]

theorem mix_hi {v b : Nat} (hb : b < 2 ^ v) (s : Nat → Bool) : mix v b (upd s v true) = mix (v + 1) (b + 2 ^ v) s := by
  funext i
  simp only [mix, upd]
  rw [Nat.add_comm b]
  by_cases h : i < v
  · simp [h, show i < v + 1 by omega, Nat.testBit_two_pow_add_gt h]
  · by_cases e : i = v
    · subst e; simp [Nat.testBit_two_pow_add_eq, Nat.testBit_lt_two_pow hb]
    · simp [h, e, show ¬ i < v + 1 by omega]

/-- The tree of the part of a function that agrees with b below v. -/
noncomputable def subT (n v b : Nat) (f : (Nat → Bool) → Bool) : T := tr n (n - v) fun s => f (mix v b s)

theorem subT_wf {n v : Nat} (b : Nat) (f : (Nat → Bool) → Bool) (h : v ≤ n) : Wf n (subT n v b f) ∧ v ≤ top n (subT n v b f) := by
  have := tr_wf n (n - v) (fun s => f (mix v b s)) (by omega)
  exact ⟨this.1, by have := this.2; unfold subT; omega⟩

theorem subT_fn {n v : Nat} {b : Nat} {f : (Nat → Bool) → Bool} (hd : Dep n 0 f) (h : v ≤ n) (s : Nat → Bool) : fn (subT n v b f) s = f (mix v b s) := by
  unfold subT
  rw [tr_fn n (n - v) _ (by omega)]
  intro x y e
  refine hd _ _ fun i _ hi => ?_
  simp only [mix]
  split
  · rfl
  · exact e i (by omega) hi

theorem subT_step {n v b : Nat} {f : (Nat → Bool) → Bool} (hv : v < n) (hb : b < 2 ^ v) : subT n v b f = mk v (subT n (v + 1) b f) (subT n (v + 1) (b + 2 ^ v) f) := by
  unfold subT
  obtain ⟨k, hk⟩ : ∃ k, n - v = k + 1 := ⟨n - v - 1, by omega⟩
  have h1 : n - (v + 1) = k := by omega
  have h2 : n - (k + 1) = v := by omega
  rw [hk, h1]
  simp only [tr, h2, mix_lo hb, mix_hi hb]

theorem subT_const {n v b : Nat} {f : (Nat → Bool) → Bool} {c : Bool} (hd : Dep n 0 f) (hv : v ≤ n) (h : ∀ s, f (mix v b s) = c) : subT n v b f = .leaf c :=
  canon' (subT_wf b f hv).1 (n := n) trivial fun a => by rw [subT_fn hd hv, h]; rfl

theorem subT_zero {n : Nat} {f : (Nat → Bool) → Bool} : subT n 0 0 f = treeOf n f := by
  unfold subT treeOf
  simp only [mix_zero, Nat.sub_zero]

/-- Each assignment is that of a number. -/
theorem enc (s : Nat → Bool) : ∀ n, ∃ x, x < 2 ^ n ∧ ∀ i, i < n → x.testBit i = s i
  | 0 => ⟨0, by simp, fun i h => by omega⟩
  | n + 1 => by
    obtain ⟨x, hx, h⟩ := enc s n
    by_cases c : s n = true
    · refine ⟨2 ^ n + x, by rw [Nat.pow_succ]; omega, fun i hi => ?_⟩
      by_cases e : i = n
      · subst e; rw [Nat.testBit_two_pow_add_eq, Nat.testBit_lt_two_pow hx, c]; rfl
      · rw [Nat.testBit_two_pow_add_gt (by omega)]; exact h i (by omega)
    · have c : s n = false := by simpa using c
      refine ⟨x, by rw [Nat.pow_succ]; omega, fun i hi => ?_⟩
      by_cases e : i = n
      · subst e; rw [Nat.testBit_lt_two_pow hx, c]
      · exact h i (by omega)

theorem const_iff {n v b : Nat} {f : (Nat → Bool) → Bool} (hd : Dep n 0 f) (hv : v ≤ n) (hb : b < 2 ^ v) :
    (∀ x, x < 2 ^ n → x % 2 ^ v = b → f (bitsA x) = f (bitsA b)) ↔ ∀ s, f (mix v b s) = f (bitsA b) := by
  constructor
  · intro h s
    obtain ⟨x, hx, hs⟩ := enc (mix v b s) n
    have hm : x % 2 ^ v = b := by
      apply Nat.eq_of_testBit_eq
      intro i
      rw [Nat.testBit_mod_two_pow]
      by_cases hi : i < v
      · rw [hs i (by omega)]; simp [mix, hi]
      · have : b < 2 ^ i := Nat.lt_of_lt_of_le hb (Nat.pow_le_pow_right (by omega) (by omega))
        simp [hi, Nat.testBit_lt_two_pow this]
    rw [← h x hx hm]
    exact hd _ _ fun i _ hi => (hs i hi).symm
  · intro h x hx hm
    rw [← h (bitsA x)]
    refine hd _ _ fun i _ hi => ?_
    simp only [mix, bitsA]
    split
    · rename_i hi'
      rw [← hm, Nat.testBit_mod_two_pow]; simp [hi']
    · rfl

/-- The table of a function of n variables. -/
def tabOf (n : Nat) (f : (Nat → Bool) → Bool) : List Bool := (List.range (2 ^ n)).map fun x => f (bitsA x)

theorem tabOf_len (n : Nat) (f : (Nat → Bool) → Bool) : (tabOf n f).length = 2 ^ n := by simp [tabOf]
theorem tabOf_get {n x : Nat} (f : (Nat → Bool) → Bool) (h : x < 2 ^ n) : (tabOf n f)[x]? = some (f (bitsA x)) := by simp [tabOf, h]

/-! Lists of parts. -/
theorem post_sub {M : List T} : ∀ {t : T}, sub M t → post t M = M
  | .leaf _, _ => rfl
  | .node _ _ _, h => by rw [post]; exact if_pos h

theorem post_facts {M : List T} (hM : Cl M) (t : T) : ∃ N, post t M = M ++ N ∧ Cl (post t M) ∧ sub (post t M) t ∧ ∀ s, s ∈ N → s.size ≤ t.size := by
  obtain ⟨N, e, c, s, p, _⟩ := post_spec t M hM
  exact ⟨N, e, e ▸ c, e ▸ s, fun s hs => p _ (size_her t.size) (Nat.le_refl _) s hs⟩

theorem post_mk_eq {M : List T} (hM : Cl M) (v : Nat) (l : T) : post (mk v l l) M = post l (post l M) := by
  obtain ⟨_, _, _, s, _⟩ := post_facts hM l
  rw [post_sub s]
  simp [mk]

theorem post_mk_ne {M : List T} (hM : Cl M) {v : Nat} {l h : T} (hne : l ≠ h) :
    post (.node v l h) M = if .node v l h ∈ post h (post l M) then post h (post l M) else post h (post l M) ++ [.node v l h] := by
  obtain ⟨N1, e1, c1, s1, z1⟩ := post_facts hM l
  obtain ⟨N2, e2, c2, s2, z2⟩ := post_facts c1 h
  rw [post]
  by_cases hm : .node v l h ∈ M
  · have k := Cl_kids hM _ hm
    have p1 : post l M = M := post_sub k.1
    have p2 : post h (post l M) = M := by rw [p1]; exact post_sub k.2
    rw [if_pos hm, p2, if_pos hm]
  · rw [if_neg hm, if_neg]
    intro k
    rw [e2, e1] at k
    rcases List.mem_append.1 k with k | k
    · rcases List.mem_append.1 k with k | k
      · exact hm k
      · have := z1 _ k; simp only [T.size] at this; omega
    · have := z2 _ k; simp only [T.size] at this; omega

end Go.Proofs.YtjlmeikcfdanmaaGreatDoor.BT

namespace Go.Proofs.YtjlmeikcfdanmaaGreatDoor.DE.V
open Go BT

/-! Shifts and remainders of small numbers. -/
theorem pow60 {n : Nat} (h : n ≤ 60) : 2 ^ n ≤ 1152921504606846976 := by
  have := Nat.pow_le_pow_right (show 0 < 2 by omega) h
  simpa using this

theorem shl1 {n : Nat} (h : n ≤ 60) : binD .shl .num (.i .i64 1) (.i .i64 n) = some (.i .i64 ((2 ^ n : Nat) : Int)) := by
  have h2 := pow60 h
  have hm : min n 64 = n := by omega
  simp only [binD, shOp]
  rw [if_neg (by omega)]
  simp only [IntKind.bits, Int.toNat_natCast, hm, Int.one_mul]
  have e : (2 : Int) ^ n = ((2 ^ n : Nat) : Int) := by simp
  rw [e]
  generalize 2 ^ n = m at *
  rw [wrap64 ⟨by omega, by omega⟩]

theorem shrN {a v : Nat} (h : v ≤ 60) : binD .shr .num (.i .i64 a) (.i .i64 v) = some (.i .i64 ((a / 2 ^ v : Nat) : Int)) := by
  have hm : min v 64 = v := by omega
  simp only [binD, shOp]
  rw [if_neg (by omega)]
  simp only [IntKind.bits, Int.toNat_natCast, hm]
  have e : (2 : Int) ^ v = ((2 ^ v : Nat) : Int) := by simp
  rw [e, ← Int.ofNat_fdiv]

theorem remN {a b : Nat} (h : 0 < b) : binD .rem .num (.i .i64 a) (.i .i64 b) = some (.i .i64 ((a % b : Nat) : Int)) := by
  simp only [binD, intOp, if_true]
  rw [if_neg (by omega), Int.ofNat_tmod]

/-! Lists of truth values. -/
def eBools (nl : Bool) (l : List Bool) : D := .sl 1 nl (l.map fun b => [.b b]) .ro
@[simp] theorem noRef_bools (nl : Bool) (l : List Bool) : noRef (eBools nl l) = true := by
  simp only [eBools, noRef, Bool.true_and]
  exact noRefLL_map (fun b : Bool => [D.b b]) (fun _ => rfl) l
@[simp] theorem strip_bools (nl : Bool) (l : List Bool) : strip (eBools nl l) = eBools nl l := (rfl)
@[simp] theorem stripT_bools (nl : Bool) (l : List Bool) : stripT (eBools nl l) = eBools nl l := (rfl)
@[simp] theorem len_bools (nl : Bool) (l : List Bool) : lenD false (eBools nl l) = some (.i .i64 l.length) := by simp [eBools, lenD]
theorem ia_bools {nl : Bool} {l : List Bool} {k : Nat} {b : Bool} (h : l[k]? = some b) : iaD 1 (eBools nl l) (.i .i64 k) = some (.el [.b b] 0) := by simp [eBools, iaD, h]

/-- A slice that may be appended to, or the empty literal. -/
def LivC (S : Store) (nl : Bool) (n : Nat) (o : Own) : Prop := Liv S nl n o ∨ (nl = false ∧ n = 0 ∧ o = .cap0)

theorem app_livC {k : Nat} {nl n' : Bool} {xs ys : List (List D)} {o o' : Own} {S : Store} (h : LivC S nl xs.length o) (hl : xs.length + ys.length ≤ maxLenD) (hy : ys ≠ []) :
    ∃ t S', appD k false (.sl k nl xs o) (.sl k n' ys o') S = some (.sl k false (xs ++ ys) (.tok t), S') ∧ sget S' t = some (.tok true) ∧ Pres S S' := by
  rcases h with h | ⟨rfl, h2, rfl⟩
  · obtain ⟨t, S', e, a, b, _⟩ := app_liv h hl hy
    exact ⟨t, S', e, a, b⟩
  · have : xs = [] := List.length_eq_zero_iff.1 h2
    subst this
    refine ⟨S.length, .tok true :: S, ?_, by simp, Pres.push _ _⟩
    rw [app_cap0 S (by simpa using hl), if_neg hy]
    rfl

theorem LivC.tok {S : Store} {t n : Nat} (h : sget S t = some (.tok true)) : LivC S false n (.tok t) := .inl (.inr ⟨rfl, t, rfl, h⟩)
theorem LivC.false {S : Store} {nl : Bool} {n : Nat} {o : Own} (h : LivC S nl n o) (hn : 0 < n) : nl = false := by
  rcases h with (⟨_, h, _⟩ | ⟨h, _⟩) | ⟨h, _⟩
  · omega
  · exact h
  · exact h
theorem LivC.push {S : Store} {nl : Bool} {n : Nat} {o : Own} (e : Ent) (h : LivC S nl n o) : LivC (e :: S) nl n o := by
  rcases h with h | h
  · exact .inl (h.push e)
  · exact .inr h

theorem v15 (nl : Bool) (l : List Row) (r : Row) (hb : Bd l.length) : isoCall (call dp) 15 [eRows nl l, .agg (eRow r)] = some (.i .i64 (ixOf r l)) := by
  apply i15 _ _ _ (by simp [noRefL]) rfl
  simp [s15]
  let J : Nat → List D → Store → Prop := fun q fr S => ∃ k a4 a9, k + q = l.length ∧ r ∉ l.take k ∧ S = [Ent.box (eRow r)] ∧ fr = mkf 19 [(0, eRows nl l), (3, .bx 0 0), (4, a4), (5, .i .i64 k), (9, a9)]
  refine W_loop J ?_ l.length _ _ ⟨0, _, _, by simp, by simp, rfl, rfl⟩
  rintro q fr S ⟨k, a4, a9, hk, hn, rfl, rfl⟩
  rw [← wp_W, e15_0]
  by_cases h : k < l.length
  · obtain ⟨x, hx⟩ : ∃ x, l[k]? = some x := ⟨_, List.getElem?_eq_getElem (by omega)⟩
    simp [s15_0, h, iaD_rows _ hx]
    by_cases e : x = r
    · subst e
      simp [ixOf_found hx hn]
    · simp [e, wrapS (hb.lt (Nat.le_of_lt h))]
      refine ⟨q - 1, by omega, k + 1, _, _, by omega, ?_, rfl, rfl⟩
      rw [take_snoc hx]
      simp [hn]
      exact fun h => e h.symm
  · have : l.take k = l := List.take_of_length_le (by omega)
    rw [this] at hn
    simp [s15_0, h, e15_r0, s15_r0, ixOf_none hn]

theorem v58 (nl nl' : Bool) (ord : List Row) (root : Int) {L : List T} (hL : Cl L) (hw : ∀ t, t ∈ L → Wf ord.length t) (h7 : ord.length ≤ 60) (hz : L.length ≤ 1000000) (t : T) (ht : sub L t) (x : Nat) :
    isoCall (call dp) 58 [eB nl nl' ord (nds L) root, .i .i64 (code L t), .i .i64 x] = some (.b (fn t (bitsA x))) := by
  apply i58 _ _ _ _ (by simp [noRefL]) rfl
  simp [s58]
  let J : Nat → List D → Store → Prop := fun q fr S => ∃ t' a6 a7 a9 a23, t'.size = q ∧ sub L t' ∧ fn t' (bitsA x) = fn t (bitsA x) ∧ sget S 0 = some (.box [eRows nl ord, eNds nl' (nds L), .i .i64 root]) ∧
    fr = mkf 28 [(1, .i .i64 (code L t')), (2, .i .i64 x), (3, .bx 0 0), (6, a6), (7, a7), (9, a9), (23, a23)]
  refine W_loop J ?_ t.size _ _ ⟨t, _, _, _, _, rfl, ht, rfl, rfl, rfl⟩
  rintro q fr S ⟨t', a6, a7, a9, a23, rfl, ht', hf, hS, rfl⟩
  rw [← wp_W, e58_0]
  have l0 := sget_lt hS
  cases t' with
  | leaf b =>
    have : ¬ 2 ≤ code L (.leaf b) := by have := code_leaf_lt L b; omega
    simp [s58_0, this, e58_r0, s58_r0]
    rw [← hf]
    cases b <;> simp [code, fn]
  | node v l h =>
    have hge := code_node_ge L v l h
    have hlt := code_lt ht'
    have hpos : (code L (.node v l h) - 2).toNat = pos L (.node v l h) := by simp only [code]; omega
    have hwt := hw _ ht'
    have hkid := Cl_kids hL _ ht'
    have hv : v ≤ 60 := by have := hwt.1; omega
    have hia := iaD_nds' (nl := nl') .i64 (show 0 ≤ code L (.node v l h) - 2 by omega) (by rw [hpos]; exact nds_get ht')
    have h2 : (2 : Int) = ((2 : Nat) : Int) := rfl
    have hrem := remN (a := x / 2 ^ v) (b := 2) (by omega)
    simp [s58_0, hge, hS, wrap64 (n := code L (.node v l h) - 2) ⟨by omega, by omega⟩, hia, nd, shrN (a := x) hv, jn_eq]
    simp at hrem
    simp [hrem]
    have hbit : bitsA x v = decide (x / 2 ^ v % 2 = 1) := by simp only [bitsA]; exact Nat.testBit_eq_decide_div_mod_eq
    by_cases hb : x / 2 ^ v % 2 = 1
    · have e1 : ((x : Int) / 2 ^ v) % 2 = 1 := by
        have : (((x / 2 ^ v % 2 : Nat)) : Int) = 1 := by rw [hb]; rfl
        simpa using this
      simp [e1]
      refine ⟨h.size, by simp only [T.size]; omega, h, _, _, _, _, rfl, hkid.2, ?_, sget_push hS, rfl⟩
      rw [← hf]; simp [fn, hbit, hb]
    · have e1 : ¬ ((x : Int) / 2 ^ v) % 2 = 1 := by
        intro h
        apply hb
        have : (((x / 2 ^ v % 2 : Nat)) : Int) = 1 := by simpa using h
        omega
      simp [e1]
      refine ⟨l.size, by simp only [T.size]; omega, l, _, _, _, _, rfl, hkid.1, ?_, sget_push hS, rfl⟩
      rw [← hf]; simp [fn, hbit, hb]

theorem range_snoc_map {β : Type} (F : Nat → β) (k : Nat) : (List.range (k + 1)).map F = (List.range k).map F ++ [F k] := by
  rw [List.range_succ, List.map_append]; rfl

/-- One more value of a list that is built by append. -/
theorem app_bools {S : Store} {nl n' : Bool} {o o' : Own} (F : Nat → Bool) (k : Nat) (h : LivC S nl k o) (hk : k ≤ 1000000) :
    ∃ t S', appD 1 false (.sl 1 nl (((List.range k).map F).map fun b => [D.b b]) o) (.sl 1 n' [[.b (F k)]] o') S = some (.sl 1 false (((List.range (k + 1)).map F).map fun b => [D.b b]) (.tok t), S') ∧ sget S' t = some (.tok true) ∧ Pres S S' := by
  have hl : (((List.range k).map F).map fun b => [D.b b]).length = k := by simp
  obtain ⟨t, S', e, a, b⟩ := app_livC (k := 1) (n' := n') (xs := ((List.range k).map F).map fun b => [D.b b]) (ys := [[.b (F k)]]) (o' := o') (by rw [hl]; exact h) (by rw [hl]; simp [maxLenD]; omega) (by simp)
  refine ⟨t, S', ?_, a, b⟩
  rw [e, range_snoc_map]
  simp

theorem v25 (nl nl' : Bool) (ord : List Row) (root : T) {L : List T} (hL : Cl L) (hw : ∀ t, t ∈ L → Wf ord.length t) (h7 : ord.length ≤ 7) (hz : L.length ≤ 1000000) (ht : sub L root) :
    isoCall (call dp) 25 [eB nl nl' ord (nds L) (code L root)] = some (eBools false (tabOf ord.length (fn root))) := by
  apply i25 _ _ (by simp [noRefL]) (by simp)
  have hp : 2 ^ ord.length ≤ 128 := by
    have := Nat.pow_le_pow_right (show 0 < 2 by omega) h7
    simpa using this
  simp [s25]
  let F : Nat → Bool := fun x => fn root (bitsA x)
  let J : Nat → List D → Store → Prop := fun q fr S => ∃ k a2 a11 n o, k + q = 2 ^ ord.length ∧ sget S 0 = some (.box [eRows nl ord, eNds nl' (nds L), .i .i64 (code L root)]) ∧ LivC S n k o ∧
    fr = mkf 23 [(1, .bx 0 0), (2, a2), (3, .sl 1 n (((List.range k).map F).map fun b => [.b b]) o), (4, .i .i64 k), (11, a11)]
  refine W_loop J ?_ (2 ^ ord.length) _ _ ⟨0, _, _, false, .cap0, by simp, rfl, .inr ⟨rfl, rfl, rfl⟩, rfl⟩
  rintro q fr S ⟨k, a2, a11, n, o, hk, hS, hl, rfl⟩
  rw [← wp_W, e25_0]
  have e58 := v58 nl nl' ord (code L root) hL hw (by omega) hz root ht k
  simp only [eB] at e58
  have hsh := shl1 (n := ord.length) (by omega)
  by_cases h : k < 2 ^ ord.length
  · have h' : (k : Int) < ((2 ^ ord.length : Nat) : Int) := by omega
    obtain ⟨t, S', e, a, b⟩ := app_bools (n' := false) (o' := .ro) F k hl (by omega)
    change appD 1 false (.sl 1 n (((List.range k).map F).map fun b => [.b b]) o) (.sl 1 false [[.b (fn root (bitsA k))]] .ro) S = _ at e
    simp [-OX_b, -List.map_map, -Int.natCast_pow, s25_0, hS, hsh, h', e58, e, wrapS (show Bd k by unfold Bd; omega)]
    exact ⟨q - 1, by omega, k + 1, _, _, false, .tok t, by omega, b _ _ hS, .tok a, rfl⟩
  · have hk' : k = 2 ^ ord.length := by omega
    have h' : ¬ (k : Int) < ((2 ^ ord.length : Nat) : Int) := by omega
    simp [-List.map_map, -Int.natCast_pow, s25_0, hS, hsh, h', e25_r0, s25_r0]
    rw [hk'] at hl ⊢
    rw [hl.false (Nat.two_pow_pos _)]
    rfl

end Go.Proofs.YtjlmeikcfdanmaaGreatDoor.DE.V

namespace Go.Proofs.YtjlmeikcfdanmaaGreatDoor.DE.V
open Go BT

theorem pow7 {n : Nat} (h : n ≤ 7) : 2 ^ n ≤ 128 := by
  have := Nat.pow_le_pow_right (show 0 < 2 by omega) h
  simpa using this

end Go.Proofs.YtjlmeikcfdanmaaGreatDoor.DE.V

namespace Go.Proofs.YtjlmeikcfdanmaaGreatDoor.BT

def vars : T → List Nat
  | .leaf _ => []
  | .node v l h => v :: (vars l ++ vars h)

theorem upd_swap {s : Nat → Bool} {v n : Nat} {a b : Bool} (h : v ≠ n) : upd (upd s v a) n b = upd (upd s n b) v a := by
  funext i
  simp only [upd]
  by_cases e : i = n
  · subst e; simp [Ne.symm h]
  · simp [e]

theorem fn_novar : ∀ {t : T} {i : Nat}, i ∉ vars t → ∀ a b, fn t (upd a i b) = fn t a
  | .leaf _, _, _, _, _ => rfl
  | .node v l r, i, h, a, b => by
    simp only [vars, List.mem_cons, List.mem_append, not_or] at h
    simp only [fn, fn_novar h.2.1 a b, fn_novar h.2.2 a b]
    have : upd a i b v = a v := by simp only [upd]; rw [if_neg (fun e => h.1 e.symm)]
    rw [this]

theorem var_dep {n : Nat} : ∀ {t : T}, Wf n t → ∀ {i : Nat}, i ∈ vars t → ∃ a, fn t (upd a i false) ≠ fn t (upd a i true)
  | .leaf _, _, i, h => by simp [vars] at h
  | .node v l r, w, i, h => by
    simp only [vars, List.mem_cons, List.mem_append] at h
    by_cases e : i = v
    · subst e
      have : ∃ a, fn l a ≠ fn r a := by
        apply Classical.byContradiction
        intro hn
        apply w.2.2.2.1
        exact canon' w.2.2.2.2.1 w.2.2.2.2.2 fun a => Classical.byContradiction fun hc => hn ⟨a, hc⟩
      obtain ⟨a, ha⟩ := this
      exact ⟨a, by rw [fn_lo w, fn_hi w]; exact ha⟩
    · rcases h with h | h | h
      · exact absurd h e
      · obtain ⟨a, ha⟩ := var_dep w.2.2.2.2.1 h
        refine ⟨upd a v false, ?_⟩
        rw [upd_swap (Ne.symm e), upd_swap (Ne.symm e), fn_lo w, fn_lo w]
        exact ha
      · obtain ⟨a, ha⟩ := var_dep w.2.2.2.2.2 h
        refine ⟨upd a v true, ?_⟩
        rw [upd_swap (Ne.symm e), upd_swap (Ne.symm e), fn_hi w, fn_hi w]
        exact ha

theorem var_iff {n : Nat} {t : T} (w : Wf n t) (i : Nat) : i ∈ vars t ↔ ¬ ∀ a, fn t (upd a i false) = fn t (upd a i true) := by
  constructor
  · intro h k
    obtain ⟨a, ha⟩ := var_dep w h
    exact ha (k a)
  · intro h
    apply Classical.byContradiction
    intro hn
    exact h fun a => by rw [fn_novar hn, fn_novar hn]

/-- The nodes' variables are the tree's. -/
theorem vars_post {t : T} {L : List T} (hs : sub L t) : ∀ i, i ∈ vars t → Cl L → ∃ l h, T.node i l h ∈ L := by
  induction t with
  | leaf b => intro i h; simp [vars] at h
  | node v l r ihl ihr =>
    intro i h hL
    simp only [vars, List.mem_cons, List.mem_append] at h
    rcases h with h | h | h
    · subst h; exact ⟨l, r, hs⟩
    · exact ihl (Cl_kids hL _ hs).1 i h hL
    · exact ihr (Cl_kids hL _ hs).2 i h hL

theorem post_vars (t : T) : ∀ s, s ∈ post t [] → ∀ i, i ∈ vars s → i ∈ vars t := by
  obtain ⟨N, e, _, _, p, _⟩ := post_spec t [] Cl_nil
  rw [List.nil_append] at e
  rw [e]
  have := p (fun s => ∀ i, i ∈ vars s → i ∈ vars t) (fun v l h k => ⟨fun i hi => k i (by simp [vars, hi]), fun i hi => k i (by simp [vars, hi])⟩) (fun i h => h)
  exact this

/-! Setting one bit of a small number. -/
theorem setB1 : ∀ v, v < 7 → ∀ x, x < 128 → x / 2 ^ v % 2 = 0 → ∀ i, i < 7 → (x + 2 ^ v).testBit i = (i == v || x.testBit i) := by decide
theorem setB0 : ∀ v, v < 7 → ∀ x, x < 128 → x / 2 ^ v % 2 = 1 → 2 ^ v ≤ x ∧ ∀ i, i < 7 → (x - 2 ^ v).testBit i = (!(i == v) && x.testBit i) := by decide
theorem setB2 : ∀ n, n < 8 → ∀ v, v < n → ∀ x, x < 2 ^ n → x / 2 ^ v % 2 = 0 → x + 2 ^ v < 2 ^ n := by decide

end Go.Proofs.YtjlmeikcfdanmaaGreatDoor.BT

namespace Go.Proofs.YtjlmeikcfdanmaaGreatDoor.DE
open Go

/-! slices.Contains[[]lineage/api.RowID,lineage/api.RowID] -/
def s65 (cf : CallF) (a0 : D) (a1 : D) (S : Store) (Post : D → Store → Prop) : Prop :=
  bxx 2 true a1 S fun x1 S2 =>
  OX (ldD S2 2 true x1) fun x3 =>
  OX (isoCall cf 50 [a0, x3]) fun x4 =>
  OX (binD .geq .num x4 (.i .i64 0)) fun x5 =>
  Post x5 S2
theorem e65 (cf : CallF) (a0 : D) (a1 : D) (S : Store) (Post : D → Store → Prop) : wp cf c65 (frame0 d65 [a0, a1]) S (FinK d65.res Post) = s65 cf a0 a1 S Post := wpS_of (by kernel_rfl)
theorem i65 (a0 : D) (a1 : D) (r : D) (ha : noRefL (stripL [a0, a1]) = true) (hr : noRef r = true) (h : s65 (call dp) (strip a0) (strip a1) [] fun d _ => stripT d = r) : isoCall (call dp) 65 [a0, a1] = some r := iso_s (f := d65) rfl ⟨rfl, by decide⟩ ha hr (by rw [← e65] at h; exact h)
/-! lineage/bdd.Eval -/
def s37_r0 (cf : CallF) (a1 : D) (a2 : D) (a4 : D) (a5 : D) (a13 : D) (S : Store) (Q : Ex → List D → Store → Prop) : Prop :=
  OX (binD .eql .num a5 (.i .i64 1)) fun x1 =>
  Q .ret (mkf 34 [(1, .top), (2, .top), (4, x1), (5, .top), (13, .top)]) S
theorem e37_r0 (cf : CallF) (a1 : D) (a2 : D) (a4 : D) (a5 : D) (a13 : D) (S : Store) (Q : Ex → List D → Store → Prop) : wp cf c37_r0 (mkf 34 [(1, a1), (2, a2), (4, a4), (5, a5), (13, a13)]) S Q = s37_r0 cf a1 a2 a4 a5 a13 S Q := wpS_of (by kernel_rfl)
def s37_0 (cf : CallF) (a1 : D) (a2 : D) (a4 : D) (a5 : D) (a13 : D) (S : Store) (Q : Ex → List D → Store → Prop) : Prop :=
  OX (binD .geq .num a5 (.i .i64 2)) fun x2 =>
  WB x2
  (OX (faD 1 a2) fun x3 =>
  OX (ldD S 1 false x3) fun x4 =>
  OX (binD .sub .num a5 (.i .i64 2)) fun x5 =>
  OX (iaD 3 x4 x5) fun x6 =>
  OX (ldD S 3 true x6) fun x7 =>
  al [.i .i64 0, .i .i64 0, .i .i64 0] S fun x8 S9 =>
  OX (stD S9 3 true x8 x7) fun S11 =>
  OX (faD 0 a2) fun x12 =>
  OX (ldD S11 1 false x12) fun x13 =>
  OX (faD 0 x8) fun x14 =>
  OX (ldD S11 1 false x14) fun x15 =>
  OX (iaD 2 x13 x15) fun x16 =>
  OX (ldD S11 2 true x16) fun x17 =>
  OX (isoCall cf 65 [a1, x17]) fun x18 =>
  jn (fun (y20 : D) (y21 : D) (y22 : D) (y23 : D) (S24 : Store) =>
  Q .normal (mkf 34 [(1, y20), (2, y21), (4, y22), (5, y23), (13, .top)]) S24) fun k19 =>
  WB x18
  (OX (faD 2 x8) fun x25 =>
  OX (ldD S11 1 false x25) fun x26 =>
  k19 a1 a2 a4 x26 S11)
  (OX (faD 1 x8) fun x27 =>
  OX (ldD S11 1 false x27) fun x28 =>
  k19 a1 a2 a4 x28 S11))
  (Q (.exit 0) (mkf 34 [(1, a1), (2, a2), (4, a4), (5, a5), (13, x2)]) S)
theorem e37_0 (cf : CallF) (a1 : D) (a2 : D) (a4 : D) (a5 : D) (a13 : D) (S : Store) (Q : Ex → List D → Store → Prop) : wp cf c37_0 (fkill (mkf 34 [(1, a1), (2, a2), (4, a4), (5, a5), (13, a13)]) []) S Q = s37_0 cf a1 a2 a4 a5 a13 S Q := wpS_of (by kernel_rfl)
def s37 (cf : CallF) (a0 : D) (a1 : D) (S : Store) (Post : D → Store → Prop) : Prop :=
  bxx 3 true a0 S fun x29 S30 =>
  OX (ldD S30 3 true x29) fun x31 =>
  OX (isoCall cf 33 [x31]) fun x32 =>
  OX (unD .not x32) fun x33 =>
  WB x33
  (Post (.b false) S30)
  (OX (faD 2 x29) fun x34 =>
  OX (ldD S30 1 false x34) fun x35 =>
  W cf (.loop [] c37_0) (mkf 34 [(1, a1), (2, x29), (4, .top), (5, x35), (13, .top)]) S30 (Qblk 0 (QS cf c37_r0 (FinK [.t 4] Post))))
theorem e37 (cf : CallF) (a0 : D) (a1 : D) (S : Store) (Post : D → Store → Prop) : wp cf c37 (frame0 d37 [a0, a1]) S (FinK d37.res Post) = s37 cf a0 a1 S Post := wpS_of (by kernel_rfl)
theorem i37 (a0 : D) (a1 : D) (r : D) (ha : noRefL (stripL [a0, a1]) = true) (hr : noRef r = true) (h : s37 (call dp) (strip a0) (strip a1) [] fun d _ => stripT d = r) : isoCall (call dp) 37 [a0, a1] = some r := iso_s (f := d37) rfl ⟨rfl, by decide⟩ ha hr (by rw [← e37] at h; exact h)
/-! lineage/lineageref11.Fixed -/
def s40_r0 (cf : CallF) (a0 : D) (a1 : D) (a2 : D) (a6 : D) (a7 : D) (a8 : D) (a14 : D) (S : Store) (Q : Ex → List D → Store → Prop) : Prop :=
  Q .ret (mkf 51 [(0, .top), (1, .top), (2, .top), (6, a7), (7, .top), (8, .top), (14, .top)]) S
theorem e40_r0 (cf : CallF) (a0 : D) (a1 : D) (a2 : D) (a6 : D) (a7 : D) (a8 : D) (a14 : D) (S : Store) (Q : Ex → List D → Store → Prop) : wp cf c40_r0 (mkf 51 [(0, a0), (1, a1), (2, a2), (6, a6), (7, a7), (8, a8), (14, a14)]) S Q = s40_r0 cf a0 a1 a2 a6 a7 a8 a14 S Q := wpS_of (by kernel_rfl)
def s40_0 (cf : CallF) (a0 : D) (a1 : D) (a2 : D) (a6 : D) (a7 : D) (a8 : D) (a14 : D) (S : Store) (Q : Ex → List D → Store → Prop) : Prop :=
  OX (lenD false a0) fun x1 =>
  OX (binD .lss .num a8 x1) fun x2 =>
  WB x2
  (OX (gsel a2 true (some a8)) fun x3 =>
  OX (gsel a2 true (some a1)) fun x4 =>
  OX (gsel a2 true (binD .shr .num x3 x4)) fun x5 =>
  OX (gsel a2 true (binD .rem .num x5 (.i .i64 2))) fun x6 =>
  OX (gsel a2 true (binD .eql .num x6 (.i .i64 0))) fun x7 =>
  OX (pickD a2 x7 (.b false)) fun x8 =>
  jn (fun (y10 : D) (y11 : D) (y12 : D) (y13 : D) (y14 : D) (y15 : D) (y16 : D) (y17 : D) (S18 : Store) =>
  OX (unD .not y12) fun x19 =>
  OX (gsel x19 true (some y15)) fun x20 =>
  OX (gsel x19 true (some y11)) fun x21 =>
  OX (gsel x19 true (binD .shr .num x20 x21)) fun x22 =>
  OX (gsel x19 true (binD .rem .num x22 (.i .i64 2))) fun x23 =>
  OX (gsel x19 true (binD .eql .num x23 (.i .i64 1))) fun x24 =>
  OX (pickD x19 x24 (.b false)) fun x25 =>
  jn (fun (y27 : D) (y28 : D) (y29 : D) (y30 : D) (y31 : D) (y32 : D) (y33 : D) (y34 : D) (S35 : Store) =>
  OX (iaD 1 y27 y33) fun x36 =>
  OX (ldD S35 1 false x36) fun x37 =>
  OX (cellsV 1 false [x37]) fun x38 =>
  OX (appD 1 false y31 (.sl 1 false x38 .ro) S35) fun p40 =>
  OX (binD .add .num y32 (.i .i64 1)) fun x41 =>
  Q .normal (mkf 51 [(0, y27), (1, y28), (2, y29), (6, y30), (7, p40.1), (8, x41), (14, .top)]) p40.2) fun k26 =>
  WB x25
  (OX (binD .shl .num (.i .i64 1) y11) fun x42 =>
  OX (binD .sub .num y15 x42) fun x43 =>
  k26 y10 y11 y12 y13 y14 y15 x43 D.top S18)
  (k26 y10 y11 y12 y13 y14 y15 y16 x25 S18)) fun k9 =>
  WB x8
  (OX (binD .shl .num (.i .i64 1) a1) fun x44 =>
  OX (binD .add .num a8 x44) fun x45 =>
  k9 a0 a1 a2 a6 a7 a8 x45 D.top S)
  (k9 a0 a1 a2 a6 a7 a8 a8 x8 S))
  (Q (.exit 0) (mkf 51 [(0, a0), (1, a1), (2, a2), (6, a6), (7, a7), (8, a8), (14, x2)]) S)
theorem e40_0 (cf : CallF) (a0 : D) (a1 : D) (a2 : D) (a6 : D) (a7 : D) (a8 : D) (a14 : D) (S : Store) (Q : Ex → List D → Store → Prop) : wp cf c40_0 (fkill (mkf 51 [(0, a0), (1, a1), (2, a2), (6, a6), (7, a7), (8, a8), (14, a14)]) []) S Q = s40_0 cf a0 a1 a2 a6 a7 a8 a14 S Q := wpS_of (by kernel_rfl)
def s40 (cf : CallF) (a0 : D) (a1 : D) (a2 : D) (S : Store) (Post : D → Store → Prop) : Prop :=
  OX (cellsV 1 false []) fun x46 =>
  W cf (.loop [] c40_0) (mkf 51 [(0, a0), (1, a1), (2, a2), (6, .top), (7, (bslO 1 x46 S).1), (8, (.i .i64 0)), (14, .top)]) (bslO 1 x46 S).2 (Qblk 0 (QS cf c40_r0 (FinK [.t 6] Post)))
theorem e40 (cf : CallF) (a0 : D) (a1 : D) (a2 : D) (S : Store) (Post : D → Store → Prop) : wp cf c40 (frame0 d40 [a0, a1, a2]) S (FinK d40.res Post) = s40 cf a0 a1 a2 S Post := wpS_of (by kernel_rfl)
theorem i40 (a0 : D) (a1 : D) (a2 : D) (r : D) (ha : noRefL (stripL [a0, a1, a2]) = true) (hr : noRef r = true) (h : s40 (call dp) (strip a0) (strip a1) (strip a2) [] fun d _ => stripT d = r) : isoCall (call dp) 40 [a0, a1, a2] = some r := iso_s (f := d40) rfl ⟨rfl, by decide⟩ ha hr (by rw [← e40] at h; exact h)
/-! lineage/lineageref11.Present -/
def s41_r0 (cf : CallF) (a0 : D) (a1 : D) (a4 : D) (a5 : D) (a6 : D) (a10 : D) (S : Store) (Q : Ex → List D → Store → Prop) : Prop :=
  Q .ret (mkf 25 [(0, .top), (1, .top), (4, a5), (5, .top), (6, .top), (10, .top)]) S
theorem e41_r0 (cf : CallF) (a0 : D) (a1 : D) (a4 : D) (a5 : D) (a6 : D) (a10 : D) (S : Store) (Q : Ex → List D → Store → Prop) : wp cf c41_r0 (mkf 25 [(0, a0), (1, a1), (4, a4), (5, a5), (6, a6), (10, a10)]) S Q = s41_r0 cf a0 a1 a4 a5 a6 a10 S Q := wpS_of (by kernel_rfl)
def s41_0 (cf : CallF) (a0 : D) (a1 : D) (a4 : D) (a5 : D) (a6 : D) (a10 : D) (S : Store) (Q : Ex → List D → Store → Prop) : Prop :=
  OX (lenD false a0) fun x1 =>
  OX (binD .lss .num a6 x1) fun x2 =>
  WB x2
  (OX (iaD 2 a0 a6) fun x3 =>
  OX (ldD S 2 true x3) fun x4 =>
  OX (isoCall cf 15 [a1, x4]) fun x5 =>
  OX (binD .geq .num x5 (.i .i64 0)) fun x6 =>
  jn (fun (y8 : D) (y9 : D) (y10 : D) (y11 : D) (y12 : D) (y13 : D) (S14 : Store) =>
  OX (binD .add .num y12 (.i .i64 1)) fun x15 =>
  Q .normal (mkf 25 [(0, y8), (1, y9), (4, y10), (5, y11), (6, x15), (10, .top)]) S14) fun k7 =>
  WB x6
  (OX (binD .shl .num (.i .i64 1) a6) fun x16 =>
  OX (binD .add .num a5 x16) fun x17 =>
  k7 a0 a1 a4 x17 a6 D.top S)
  (k7 a0 a1 a4 a5 a6 x6 S))
  (Q (.exit 0) (mkf 25 [(0, a0), (1, a1), (4, a4), (5, a5), (6, a6), (10, x2)]) S)
theorem e41_0 (cf : CallF) (a0 : D) (a1 : D) (a4 : D) (a5 : D) (a6 : D) (a10 : D) (S : Store) (Q : Ex → List D → Store → Prop) : wp cf c41_0 (fkill (mkf 25 [(0, a0), (1, a1), (4, a4), (5, a5), (6, a6), (10, a10)]) []) S Q = s41_0 cf a0 a1 a4 a5 a6 a10 S Q := wpS_of (by kernel_rfl)
def s41 (cf : CallF) (a0 : D) (a1 : D) (S : Store) (Post : D → Store → Prop) : Prop :=
  W cf (.loop [] c41_0) (mkf 25 [(0, a0), (1, a1), (4, .top), (5, (.i .i64 0)), (6, (.i .i64 0)), (10, .top)]) S (Qblk 0 (QS cf c41_r0 (FinK [.t 4] Post)))
theorem e41 (cf : CallF) (a0 : D) (a1 : D) (S : Store) (Post : D → Store → Prop) : wp cf c41 (frame0 d41 [a0, a1]) S (FinK d41.res Post) = s41 cf a0 a1 S Post := wpS_of (by kernel_rfl)
theorem j41 (a0 : D) (a1 : D) (Post : D → Prop) (ha : noRefL (stripL [a0, a1]) = true) (hr : ∀ r, Post r → noRef r = true) (h : s41 (call dp) (strip a0) (strip a1) [] fun d _ => Post (stripT d)) : ∃ r, isoCall (call dp) 41 [a0, a1] = some r ∧ Post r := iso_x (f := d41) rfl ⟨rfl, by decide⟩ ha hr (by rw [← e41] at h; exact h)
/-! lineage/lineageref11.Support -/
def s42_r0 (cf : CallF) (a0 : D) (a1 : D) (a4 : D) (a5 : D) (a6 : D) (a7 : D) (a8 : D) (a9 : D) (a10 : D) (a15 : D) (a27 : D) (a42 : D) (S : Store) (Q : Ex → List D → Store → Prop) : Prop :=
  jn (fun (y2 : D) (y3 : D) (y4 : D) (y5 : D) (y6 : D) (y7 : D) (y8 : D) (S9 : Store) =>
  Q .normal (mkf 52 [(0, y2), (1, y3), (4, y4), (5, y5), (6, y6), (7, .top), (8, .top), (9, .top), (10, .top), (15, y7), (27, .top), (42, y8)]) S9) fun k1 =>
  WB a9
  (OX (iaD 2 a0 a6) fun x10 =>
  OX (ldD S 2 true x10) fun x11 =>
  OX (cellsV 2 true [x11]) fun x12 =>
  OX (appD 2 false a5 (.sl 2 false x12 .ro) S) fun p14 =>
  k1 a0 a1 a4 p14.1 a6 a15 D.top p14.2)
  (k1 a0 a1 a4 a5 a6 a15 a9 S)
theorem e42_r0 (cf : CallF) (a0 : D) (a1 : D) (a4 : D) (a5 : D) (a6 : D) (a7 : D) (a8 : D) (a9 : D) (a10 : D) (a15 : D) (a27 : D) (a42 : D) (S : Store) (Q : Ex → List D → Store → Prop) : wp cf c42_r0 (mkf 52 [(0, a0), (1, a1), (4, a4), (5, a5), (6, a6), (7, a7), (8, a8), (9, a9), (10, a10), (15, a15), (27, a27), (42, a42)]) S Q = s42_r0 cf a0 a1 a4 a5 a6 a7 a8 a9 a10 a15 a27 a42 S Q := wpS_of (by kernel_rfl)
def s42_r1 (cf : CallF) (a0 : D) (a1 : D) (a4 : D) (a5 : D) (a6 : D) (a7 : D) (a8 : D) (a9 : D) (a10 : D) (a15 : D) (a27 : D) (a42 : D) (S : Store) (Q : Ex → List D → Store → Prop) : Prop :=
  OX (binD .add .num a6 (.i .i64 1)) fun x15 =>
  Q .normal (mkf 52 [(0, a0), (1, a1), (4, a4), (5, a5), (6, x15), (7, a7), (8, a8), (9, a9), (10, a10), (15, a15), (27, a27), (42, .top)]) S
theorem e42_r1 (cf : CallF) (a0 : D) (a1 : D) (a4 : D) (a5 : D) (a6 : D) (a7 : D) (a8 : D) (a9 : D) (a10 : D) (a15 : D) (a27 : D) (a42 : D) (S : Store) (Q : Ex → List D → Store → Prop) : wp cf c42_r1 (mkf 52 [(0, a0), (1, a1), (4, a4), (5, a5), (6, a6), (7, a7), (8, a8), (9, a9), (10, a10), (15, a15), (27, a27), (42, a42)]) S Q = s42_r1 cf a0 a1 a4 a5 a6 a7 a8 a9 a10 a15 a27 a42 S Q := wpS_of (by kernel_rfl)
def s42_0 (cf : CallF) (a0 : D) (a1 : D) (a4 : D) (a5 : D) (a6 : D) (a7 : D) (a8 : D) (a9 : D) (a10 : D) (a15 : D) (a27 : D) (a42 : D) (S : Store) (Q : Ex → List D → Store → Prop) : Prop :=
  OX (lenD false a7) fun x16 =>
  OX (binD .lss .num a10 x16) fun x17 =>
  WB x17
  (OX (gsel a9 false (some a7)) fun x18 =>
  OX (gsel a9 false (some a10)) fun x19 =>
  OX (gsel a9 false (iaD 1 x18 x19)) fun x20 =>
  OX (gsel a9 false (ldD S 1 false x20)) fun x21 =>
  OX (gsel a9 false (some a8)) fun x22 =>
  OX (gsel a9 false (some a10)) fun x23 =>
  OX (gsel a9 false (iaD 1 x22 x23)) fun x24 =>
  OX (gsel a9 false (ldD S 1 false x24)) fun x25 =>
  OX (gsel a9 false (binD .neq .bool x21 x25)) fun x26 =>
  OX (pickD a9 (.b true) x26) fun x27 =>
  OX (binD .add .num a10 (.i .i64 1)) fun x28 =>
  Q .normal (mkf 52 [(0, a0), (1, a1), (4, a4), (5, a5), (6, a6), (7, a7), (8, a8), (9, x27), (10, x28), (15, a15), (27, .top), (42, a42)]) S)
  (Q (.exit 2) (mkf 52 [(0, a0), (1, a1), (4, a4), (5, a5), (6, a6), (7, a7), (8, a8), (9, a9), (10, a10), (15, a15), (27, x17), (42, a42)]) S)
theorem e42_0 (cf : CallF) (a0 : D) (a1 : D) (a4 : D) (a5 : D) (a6 : D) (a7 : D) (a8 : D) (a9 : D) (a10 : D) (a15 : D) (a27 : D) (a42 : D) (S : Store) (Q : Ex → List D → Store → Prop) : wp cf c42_0 (fkill (mkf 52 [(0, a0), (1, a1), (4, a4), (5, a5), (6, a6), (7, a7), (8, a8), (9, a9), (10, a10), (15, a15), (27, a27), (42, a42)]) []) S Q = s42_0 cf a0 a1 a4 a5 a6 a7 a8 a9 a10 a15 a27 a42 S Q := wpS_of (by kernel_rfl)
def s42_r2 (cf : CallF) (a0 : D) (a1 : D) (a4 : D) (a5 : D) (a6 : D) (a7 : D) (a8 : D) (a9 : D) (a10 : D) (a15 : D) (a27 : D) (a42 : D) (S : Store) (Q : Ex → List D → Store → Prop) : Prop :=
  OX (isoCall cf 43 [a5]) fun x29 =>
  Q .ret (mkf 52 [(0, .top), (1, .top), (4, x29), (5, .top), (6, .top), (7, a7), (8, a8), (9, a9), (10, a10), (15, .top), (27, a27), (42, a42)]) S
theorem e42_r2 (cf : CallF) (a0 : D) (a1 : D) (a4 : D) (a5 : D) (a6 : D) (a7 : D) (a8 : D) (a9 : D) (a10 : D) (a15 : D) (a27 : D) (a42 : D) (S : Store) (Q : Ex → List D → Store → Prop) : wp cf c42_r2 (mkf 52 [(0, a0), (1, a1), (4, a4), (5, a5), (6, a6), (7, a7), (8, a8), (9, a9), (10, a10), (15, a15), (27, a27), (42, a42)]) S Q = s42_r2 cf a0 a1 a4 a5 a6 a7 a8 a9 a10 a15 a27 a42 S Q := wpS_of (by kernel_rfl)
def s42_1 (cf : CallF) (a0 : D) (a1 : D) (a4 : D) (a5 : D) (a6 : D) (a7 : D) (a8 : D) (a9 : D) (a10 : D) (a15 : D) (a27 : D) (a42 : D) (S : Store) (Q : Ex → List D → Store → Prop) : Prop :=
  OX (lenD false a0) fun x30 =>
  OX (binD .lss .num a6 x30) fun x31 =>
  WB x31
  (OX (isoCall cf 40 [a1, a6, (.b false)]) fun x32 =>
  OX (isoCall cf 40 [a1, a6, (.b true)]) fun x33 =>
  W cf (.loop [] c42_0) (mkf 52 [(0, a0), (1, a1), (4, a4), (5, a5), (6, a6), (7, x32), (8, x33), (9, (.b false)), (10, (.i .i64 0)), (15, .top), (27, a27), (42, a42)]) S (Qblk 2 (QS cf c42_r0 (Qblk 1 (QS cf c42_r1 Q)))))
  (Q (.exit 0) (mkf 52 [(0, a0), (1, a1), (4, a4), (5, a5), (6, a6), (7, a7), (8, a8), (9, a9), (10, a10), (15, x31), (27, a27), (42, a42)]) S)
theorem e42_1 (cf : CallF) (a0 : D) (a1 : D) (a4 : D) (a5 : D) (a6 : D) (a7 : D) (a8 : D) (a9 : D) (a10 : D) (a15 : D) (a27 : D) (a42 : D) (S : Store) (Q : Ex → List D → Store → Prop) : wp cf c42_1 (fkill (mkf 52 [(0, a0), (1, a1), (4, a4), (5, a5), (6, a6), (7, a7), (8, a8), (9, a9), (10, a10), (15, a15), (27, a27), (42, a42)]) []) S Q = s42_1 cf a0 a1 a4 a5 a6 a7 a8 a9 a10 a15 a27 a42 S Q := wpS_of (by kernel_rfl)
def s42 (cf : CallF) (a0 : D) (a1 : D) (S : Store) (Post : D → Store → Prop) : Prop :=
  OX (cellsV 2 true []) fun x34 =>
  W cf (.loop [] c42_1) (mkf 52 [(0, a0), (1, a1), (4, .top), (5, (bslO 2 x34 S).1), (6, (.i .i64 0)), (7, .top), (8, .top), (9, .top), (10, .top), (15, .top), (27, .top), (42, .top)]) (bslO 2 x34 S).2 (Qblk 0 (QS cf c42_r2 (FinK [.t 4] Post)))
theorem e42 (cf : CallF) (a0 : D) (a1 : D) (S : Store) (Post : D → Store → Prop) : wp cf c42 (frame0 d42 [a0, a1]) S (FinK d42.res Post) = s42 cf a0 a1 S Post := wpS_of (by kernel_rfl)
theorem j42 (a0 : D) (a1 : D) (Post : D → Prop) (ha : noRefL (stripL [a0, a1]) = true) (hr : ∀ r, Post r → noRef r = true) (h : s42 (call dp) (strip a0) (strip a1) [] fun d _ => Post (stripT d)) : ∃ r, isoCall (call dp) 42 [a0, a1] = some r ∧ Post r := iso_x (f := d42) rfl ⟨rfl, by decide⟩ ha hr (by rw [← e42] at h; exact h)
/-! lineage/lineageref02.Normalize -/
def s43_r0 (cf : CallF) (a0 : D) (a2 : D) (a3 : D) (a4 : D) (a9 : D) (S : Store) (Q : Ex → List D → Store → Prop) : Prop :=
  Q .ret (mkf 19 [(0, .top), (2, a3), (3, .top), (4, .top), (9, .top)]) S
theorem e43_r0 (cf : CallF) (a0 : D) (a2 : D) (a3 : D) (a4 : D) (a9 : D) (S : Store) (Q : Ex → List D → Store → Prop) : wp cf c43_r0 (mkf 19 [(0, a0), (2, a2), (3, a3), (4, a4), (9, a9)]) S Q = s43_r0 cf a0 a2 a3 a4 a9 S Q := wpS_of (by kernel_rfl)
def s43_0 (cf : CallF) (a0 : D) (a2 : D) (a3 : D) (a4 : D) (a9 : D) (S : Store) (Q : Ex → List D → Store → Prop) : Prop :=
  OX (lenD false a0) fun x1 =>
  OX (binD .lss .num a4 x1) fun x2 =>
  WB x2
  (OX (iaD 2 a0 a4) fun x3 =>
  OX (ldD S 2 true x3) fun x4 =>
  OX (isoCall cf 82 [a3, x4]) fun x5 =>
  OX (binD .add .num a4 (.i .i64 1)) fun x6 =>
  Q .normal (mkf 19 [(0, a0), (2, a2), (3, x5), (4, x6), (9, .top)]) S)
  (Q (.exit 0) (mkf 19 [(0, a0), (2, a2), (3, a3), (4, a4), (9, x2)]) S)
theorem e43_0 (cf : CallF) (a0 : D) (a2 : D) (a3 : D) (a4 : D) (a9 : D) (S : Store) (Q : Ex → List D → Store → Prop) : wp cf c43_0 (fkill (mkf 19 [(0, a0), (2, a2), (3, a3), (4, a4), (9, a9)]) []) S Q = s43_0 cf a0 a2 a3 a4 a9 S Q := wpS_of (by kernel_rfl)
def s43 (cf : CallF) (a0 : D) (S : Store) (Post : D → Store → Prop) : Prop :=
  OX (cellsV 2 true []) fun x7 =>
  W cf (.loop [] c43_0) (mkf 19 [(0, a0), (2, .top), (3, (bslO 2 x7 S).1), (4, (.i .i64 0)), (9, .top)]) (bslO 2 x7 S).2 (Qblk 0 (QS cf c43_r0 (FinK [.t 2] Post)))
theorem e43 (cf : CallF) (a0 : D) (S : Store) (Post : D → Store → Prop) : wp cf c43 (frame0 d43 [a0]) S (FinK d43.res Post) = s43 cf a0 S Post := wpS_of (by kernel_rfl)
theorem j43 (a0 : D) (Post : D → Prop) (ha : noRefL (stripL [a0]) = true) (hr : ∀ r, Post r → noRef r = true) (h : s43 (call dp) (strip a0) [] fun d _ => Post (stripT d)) : ∃ r, isoCall (call dp) 43 [a0] = some r ∧ Post r := iso_x (f := d43) rfl ⟨rfl, by decide⟩ ha hr (by rw [← e43] at h; exact h)
/-! lineage/lineageref02.insert -/
def s82_r0 (cf : CallF) (a0 : D) (a3 : D) (a4 : D) (a5 : D) (a6 : D) (a7 : D) (a16 : D) (S : Store) (Q : Ex → List D → Store → Prop) : Prop :=
  OX (unD .not a6) fun x1 =>
  jn (fun (y3 : D) (y4 : D) (y5 : D) (y6 : D) (S7 : Store) =>
  Q .ret (mkf 48 [(0, .top), (3, .top), (4, y5), (5, .top), (6, .top), (7, .top), (16, .top)]) S7) fun k2 =>
  WB x1
  (OX (ldD S 2 true a3) fun x8 =>
  OX (cellsV 2 true [x8]) fun x9 =>
  OX (appD 2 false a5 (.sl 2 false x9 .ro) S) fun p11 =>
  k2 D.top a4 p11.1 D.top p11.2)
  (k2 a3 a4 a5 x1 S)
theorem e82_r0 (cf : CallF) (a0 : D) (a3 : D) (a4 : D) (a5 : D) (a6 : D) (a7 : D) (a16 : D) (S : Store) (Q : Ex → List D → Store → Prop) : wp cf c82_r0 (mkf 48 [(0, a0), (3, a3), (4, a4), (5, a5), (6, a6), (7, a7), (16, a16)]) S Q = s82_r0 cf a0 a3 a4 a5 a6 a7 a16 S Q := wpS_of (by kernel_rfl)
def s82_0 (cf : CallF) (a0 : D) (a3 : D) (a4 : D) (a5 : D) (a6 : D) (a7 : D) (a16 : D) (S : Store) (Q : Ex → List D → Store → Prop) : Prop :=
  OX (lenD false a0) fun x12 =>
  OX (binD .lss .num a7 x12) fun x13 =>
  WB x13
  (OX (unD .not a6) fun x14 =>
  OX (gsel x14 true (ldD S 2 true a3)) fun x15 =>
  OX (gsel x14 true (some a0)) fun x16 =>
  OX (gsel x14 true (some a7)) fun x17 =>
  OX (gsel x14 true (iaD 2 x16 x17)) fun x18 =>
  OX (gsel x14 true (ldD S 2 true x18)) fun x19 =>
  OX (gsel x14 true (isoCall cf 126 [x15, x19])) fun x20 =>
  OX (gsel x14 true (binD .lss .num x20 (.i .i64 0))) fun x21 =>
  OX (pickD x14 x21 (.b false)) fun x22 =>
  jn (fun (y24 : D) (y25 : D) (y26 : D) (y27 : D) (y28 : D) (y29 : D) (y30 : D) (S31 : Store) =>
  OX (iaD 2 y24 y29) fun x32 =>
  OX (ldD S31 2 true x32) fun x33 =>
  OX (cellsV 2 true [x33]) fun x34 =>
  OX (appD 2 false y27 (.sl 2 false x34 .ro) S31) fun p36 =>
  OX (binD .add .num y29 (.i .i64 1)) fun x37 =>
  Q .normal (mkf 48 [(0, y24), (3, y25), (4, y26), (5, p36.1), (6, y28), (7, x37), (16, .top)]) p36.2) fun k23 =>
  WB x22
  (OX (ldD S 2 true a3) fun x38 =>
  OX (cellsV 2 true [x38]) fun x39 =>
  OX (appD 2 false a5 (.sl 2 false x39 .ro) S) fun p41 =>
  k23 a0 a3 a4 p41.1 (.b true) a7 D.top p41.2)
  (k23 a0 a3 a4 a5 a6 a7 x22 S))
  (Q (.exit 0) (mkf 48 [(0, a0), (3, a3), (4, a4), (5, a5), (6, a6), (7, a7), (16, x13)]) S)
theorem e82_0 (cf : CallF) (a0 : D) (a3 : D) (a4 : D) (a5 : D) (a6 : D) (a7 : D) (a16 : D) (S : Store) (Q : Ex → List D → Store → Prop) : wp cf c82_0 (fkill (mkf 48 [(0, a0), (3, a3), (4, a4), (5, a5), (6, a6), (7, a7), (16, a16)]) []) S Q = s82_0 cf a0 a3 a4 a5 a6 a7 a16 S Q := wpS_of (by kernel_rfl)
def s82 (cf : CallF) (a0 : D) (a1 : D) (S : Store) (Post : D → Store → Prop) : Prop :=
  bxx 2 true a1 S fun x42 S43 =>
  OX (ldD S43 2 true x42) fun x44 =>
  OX (isoCall cf 125 [a0, x44]) fun x45 =>
  WB x45
  (Post a0 S43)
  (OX (cellsV 2 true []) fun x46 =>
  W cf (.loop [] c82_0) (mkf 48 [(0, a0), (3, x42), (4, .top), (5, (bslO 2 x46 S43).1), (6, (.b false)), (7, (.i .i64 0)), (16, .top)]) (bslO 2 x46 S43).2 (Qblk 0 (QS cf c82_r0 (FinK [.t 4] Post))))
theorem e82 (cf : CallF) (a0 : D) (a1 : D) (S : Store) (Post : D → Store → Prop) : wp cf c82 (frame0 d82 [a0, a1]) S (FinK d82.res Post) = s82 cf a0 a1 S Post := wpS_of (by kernel_rfl)
theorem i82 (a0 : D) (a1 : D) (r : D) (ha : noRefL (stripL [a0, a1]) = true) (hr : noRef r = true) (h : s82 (call dp) (strip a0) (strip a1) [] fun d _ => stripT d = r) : isoCall (call dp) 82 [a0, a1] = some r := iso_s (f := d82) rfl ⟨rfl, by decide⟩ ha hr (by rw [← e82] at h; exact h)
/-! lineage/lineageref02.In -/
def s125_r0 (cf : CallF) (a0 : D) (a3 : D) (a4 : D) (a5 : D) (a9 : D) (S : Store) (Q : Ex → List D → Store → Prop) : Prop :=
  Q .ret (mkf 18 [(0, .top), (3, .top), (4, (.b false)), (5, .top), (9, .top)]) S
theorem e125_r0 (cf : CallF) (a0 : D) (a3 : D) (a4 : D) (a5 : D) (a9 : D) (S : Store) (Q : Ex → List D → Store → Prop) : wp cf c125_r0 (mkf 18 [(0, a0), (3, a3), (4, a4), (5, a5), (9, a9)]) S Q = s125_r0 cf a0 a3 a4 a5 a9 S Q := wpS_of (by kernel_rfl)
def s125_0 (cf : CallF) (a0 : D) (a3 : D) (a4 : D) (a5 : D) (a9 : D) (S : Store) (Q : Ex → List D → Store → Prop) : Prop :=
  OX (lenD false a0) fun x1 =>
  OX (binD .lss .num a5 x1) fun x2 =>
  WB x2
  (OX (iaD 2 a0 a5) fun x3 =>
  OX (ldD S 2 true x3) fun x4 =>
  OX (ldD S 2 true a3) fun x5 =>
  OX (binD .eql (.agg [.i, .i]) x4 x5) fun x6 =>
  WB x6
  (Q .ret (mkf 18 [(0, .top), (3, .top), (4, (.b true)), (5, .top), (9, .top)]) S)
  (OX (binD .add .num a5 (.i .i64 1)) fun x7 =>
  Q .normal (mkf 18 [(0, a0), (3, a3), (4, a4), (5, x7), (9, .top)]) S))
  (Q (.exit 0) (mkf 18 [(0, a0), (3, a3), (4, a4), (5, a5), (9, x2)]) S)
theorem e125_0 (cf : CallF) (a0 : D) (a3 : D) (a4 : D) (a5 : D) (a9 : D) (S : Store) (Q : Ex → List D → Store → Prop) : wp cf c125_0 (fkill (mkf 18 [(0, a0), (3, a3), (4, a4), (5, a5), (9, a9)]) []) S Q = s125_0 cf a0 a3 a4 a5 a9 S Q := wpS_of (by kernel_rfl)
def s125 (cf : CallF) (a0 : D) (a1 : D) (S : Store) (Post : D → Store → Prop) : Prop :=
  bxx 2 true a1 S fun x8 S9 =>
  W cf (.loop [] c125_0) (mkf 18 [(0, a0), (3, x8), (4, .top), (5, (.i .i64 0)), (9, .top)]) S9 (Qblk 0 (QS cf c125_r0 (FinK [.t 4] Post)))
theorem e125 (cf : CallF) (a0 : D) (a1 : D) (S : Store) (Post : D → Store → Prop) : wp cf c125 (frame0 d125 [a0, a1]) S (FinK d125.res Post) = s125 cf a0 a1 S Post := wpS_of (by kernel_rfl)
theorem i125 (a0 : D) (a1 : D) (r : D) (ha : noRefL (stripL [a0, a1]) = true) (hr : noRef r = true) (h : s125 (call dp) (strip a0) (strip a1) [] fun d _ => stripT d = r) : isoCall (call dp) 125 [a0, a1] = some r := iso_s (f := d125) rfl ⟨rfl, by decide⟩ ha hr (by rw [← e125] at h; exact h)
/-! lineage/lineageref02.Compare -/
def s126 (cf : CallF) (a0 : D) (a1 : D) (S : Store) (Post : D → Store → Prop) : Prop :=
  bxx 2 true a0 S fun x1 S2 =>
  bxx 2 true a1 S2 fun x3 S4 =>
  OX (ldD S4 2 true x1) fun x5 =>
  OX (ldD S4 2 true x3) fun x6 =>
  OX (binD .eql (.agg [.i, .i]) x5 x6) fun x7 =>
  WB x7
  (Post (.i .i64 0) S4)
  (OX (faD 0 x1) fun x8 =>
  OX (ldD S4 1 false x8) fun x9 =>
  OX (faD 0 x3) fun x10 =>
  OX (ldD S4 1 false x10) fun x11 =>
  OX (binD .lss .num x9 x11) fun x12 =>
  OX (gsel x12 false (faD 0 x1)) fun x13 =>
  OX (gsel x12 false (ldD S4 1 false x13)) fun x14 =>
  OX (gsel x12 false (faD 0 x3)) fun x15 =>
  OX (gsel x12 false (ldD S4 1 false x15)) fun x16 =>
  OX (gsel x12 false (binD .eql .num x14 x16)) fun x17 =>
  OX (gsel x12 false (some x17)) fun x18 =>
  OX (gsel x18 true (faD 1 x1)) fun x19 =>
  OX (gsel x18 true (ldD S4 1 false x19)) fun x20 =>
  OX (gsel x18 true (faD 1 x3)) fun x21 =>
  OX (gsel x18 true (ldD S4 1 false x21)) fun x22 =>
  OX (gsel x18 true (binD .lss .num x20 x22)) fun x23 =>
  OX (gsel x12 false (pickD x18 x23 (.b false))) fun x24 =>
  OX (pickD x12 (.b true) x24) fun x25 =>
  WB x25
  (Post (.i .i64 (-1)) S4)
  (Post (.i .i64 1) S4))
theorem e126 (cf : CallF) (a0 : D) (a1 : D) (S : Store) (Post : D → Store → Prop) : wp cf c126 (frame0 d126 [a0, a1]) S (FinK d126.res Post) = s126 cf a0 a1 S Post := wpS_of (by kernel_rfl)
theorem i126 (a0 : D) (a1 : D) (r : D) (ha : noRefL (stripL [a0, a1]) = true) (hr : noRef r = true) (h : s126 (call dp) (strip a0) (strip a1) [] fun d _ => stripT d = r) : isoCall (call dp) 126 [a0, a1] = some r := iso_s (f := d126) rfl ⟨rfl, by decide⟩ ha hr (by rw [← e126] at h; exact h)
/-! lineage/bdd.Support -/
def s39_r0 (cf : CallF) (a1 : D) (a2 : D) (a3 : D) (a10 : D) (a11 : D) (a12 : D) (a13 : D) (S : Store) (Q : Ex → List D → Store → Prop) : Prop :=
  OX (isoCall cf 81 [a3]) fun x1 =>
  Q .ret (mkf 28 [(1, .top), (2, x1), (3, .top), (10, .top), (11, .top), (12, .top), (13, .top)]) S
theorem e39_r0 (cf : CallF) (a1 : D) (a2 : D) (a3 : D) (a10 : D) (a11 : D) (a12 : D) (a13 : D) (S : Store) (Q : Ex → List D → Store → Prop) : wp cf c39_r0 (mkf 28 [(1, a1), (2, a2), (3, a3), (10, a10), (11, a11), (12, a12), (13, a13)]) S Q = s39_r0 cf a1 a2 a3 a10 a11 a12 a13 S Q := wpS_of (by kernel_rfl)
def s39_0 (cf : CallF) (a1 : D) (a2 : D) (a3 : D) (a10 : D) (a11 : D) (a12 : D) (a13 : D) (S : Store) (Q : Ex → List D → Store → Prop) : Prop :=
  OX (binD .lss .num a12 a11) fun x2 =>
  WB x2
  (OX (iaD 3 a10 a12) fun x3 =>
  OX (ldD S 3 true x3) fun x4 =>
  al [.i .i64 0, .i .i64 0, .i .i64 0] S fun x5 S6 =>
  OX (stD S6 3 true x5 x4) fun S8 =>
  OX (faD 0 a1) fun x9 =>
  OX (ldD S8 1 false x9) fun x10 =>
  OX (faD 0 x5) fun x11 =>
  OX (ldD S8 1 false x11) fun x12 =>
  OX (iaD 2 x10 x12) fun x13 =>
  OX (ldD S8 2 true x13) fun x14 =>
  OX (cellsV 2 true [x14]) fun x15 =>
  OX (appD 2 false a3 (.sl 2 false x15 .ro) S8) fun p17 =>
  OX (binD .add .num a12 (.i .i64 1)) fun x18 =>
  Q .normal (mkf 28 [(1, a1), (2, a2), (3, p17.1), (10, a10), (11, a11), (12, x18), (13, .top)]) p17.2)
  (Q (.exit 0) (mkf 28 [(1, a1), (2, a2), (3, a3), (10, a10), (11, a11), (12, a12), (13, x2)]) S)
theorem e39_0 (cf : CallF) (a1 : D) (a2 : D) (a3 : D) (a10 : D) (a11 : D) (a12 : D) (a13 : D) (S : Store) (Q : Ex → List D → Store → Prop) : wp cf c39_0 (fkill (mkf 28 [(1, a1), (2, a2), (3, a3), (10, a10), (11, a11), (12, a12), (13, a13)]) []) S Q = s39_0 cf a1 a2 a3 a10 a11 a12 a13 S Q := wpS_of (by kernel_rfl)
def s39 (cf : CallF) (a0 : D) (S : Store) (Post : D → Store → Prop) : Prop :=
  bxx 3 true a0 S fun x19 S20 =>
  OX (ldD S20 3 true x19) fun x21 =>
  OX (isoCall cf 33 [x21]) fun x22 =>
  OX (unD .not x22) fun x23 =>
  WB x23
  (Post (.sl 2 true [] .ro) S20)
  (OX (faD 1 x19) fun x24 =>
  OX (ldD S20 1 false x24) fun x25 =>
  OX (lenD false x25) fun x26 =>
  W cf (.loop [] c39_0) (mkf 28 [(1, x19), (2, .top), (3, (.sl 2 true [] .ro)), (10, x25), (11, x26), (12, (.i .i64 0)), (13, .top)]) S20 (Qblk 0 (QS cf c39_r0 (FinK [.t 2] Post))))
theorem e39 (cf : CallF) (a0 : D) (S : Store) (Post : D → Store → Prop) : wp cf c39 (frame0 d39 [a0]) S (FinK d39.res Post) = s39 cf a0 S Post := wpS_of (by kernel_rfl)
theorem i39 (a0 : D) (r : D) (ha : noRefL (stripL [a0]) = true) (hr : noRef r = true) (h : s39 (call dp) (strip a0) [] fun d _ => stripT d = r) : isoCall (call dp) 39 [a0] = some r := iso_s (f := d39) rfl ⟨rfl, by decide⟩ ha hr (by rw [← e39] at h; exact h)
theorem j39 (a0 : D) (Post : D → Prop) (ha : noRefL (stripL [a0]) = true) (hr : ∀ r, Post r → noRef r = true) (h : s39 (call dp) (strip a0) [] fun d _ => Post (stripT d)) : ∃ r, isoCall (call dp) 39 [a0] = some r ∧ Post r := iso_x (f := d39) rfl ⟨rfl, by decide⟩ ha hr (by rw [← e39] at h; exact h)
/-! lineage/lineagelaw11.BddRestrict -/
def s9 (cf : CallF) (a0 : D) (a1 : D) (a2 : D) (a3 : D) (S : Store) (Post : D → Store → Prop) : Prop :=
  bxx 3 true a0 S fun x1 S2 =>
  bxx 2 true a1 S2 fun x3 S4 =>
  OX (isoCall cf 10 []) fun x5 =>
  OX (unD .not x5) fun x6 =>
  OX (gsel x6 false (ldD S4 3 true x1)) fun x7 =>
  OX (gsel x6 false (isoCall cf 11 [x7])) fun x8 =>
  OX (gsel x6 false (unD .not x8)) fun x9 =>
  OX (pickD x6 (.b true) x9) fun x10 =>
  OX (gsel x10 false (some a3)) fun x11 =>
  OX (gsel x10 false (lenD false x11)) fun x12 =>
  OX (gsel x10 false (binD .gtr .num x12 (.i .i64 12))) fun x13 =>
  OX (pickD x10 (.b true) x13) fun x14 =>
  WB x14
  (OX (isoCall cf 10 []) fun x15 =>
  Post x15 S4)
  (OX (ldD S4 3 true x1) fun x16 =>
  OX (ldD S4 2 true x3) fun x17 =>
  OX (isoCall cf 38 [x16, x17, a2]) fun x18 =>
  al [.sl 2 true [] .ro, .sl 3 true [] .ro, .i .i64 0] S4 fun x19 S20 =>
  OX (stD S20 3 true x19 x18) fun S22 =>
  OX (ldD S22 3 true x1) fun x23 =>
  OX (isoCall cf 24 [x23]) fun x24 =>
  OX (unD .not x24) fun x25 =>
  WB x25
  (OX (ldD S22 3 true x19) fun x26 =>
  OX (bldV [.sl 2 true [] .ro, .sl 3 true [] .ro, .i .i64 0] []) fun x27 =>
  OX (isoCall cf 17 [x26, (.agg x27)]) fun x28 =>
  OX (gsel x28 true (ldD S22 3 true x1)) fun x29 =>
  OX (gsel x28 true (some a3)) fun x30 =>
  OX (gsel x28 true (isoCall cf 37 [x29, x30])) fun x31 =>
  OX (gsel x28 true (unD .not x31)) fun x32 =>
  OX (pickD x28 x32 (.b false)) fun x33 =>
  OX (gsel x33 true (ldD S22 3 true x1)) fun x34 =>
  OX (gsel x33 true (isoCall cf 39 [x34])) fun x35 =>
  OX (gsel x33 true (lenD false x35)) fun x36 =>
  OX (gsel x33 true (binD .eql .num x36 (.i .i64 0))) fun x37 =>
  OX (pickD x33 x37 (.b false)) fun x38 =>
  Post x38 S22)
  (OX (ldD S22 3 true x1) fun x39 =>
  OX (isoCall cf 25 [x39]) fun x40 =>
  OX (ldD S22 3 true x1) fun x41 =>
  al [.sl 2 true [] .ro, .sl 3 true [] .ro, .i .i64 0] S22 fun x42 S43 =>
  OX (stD S43 3 true x42 x41) fun S45 =>
  OX (faD 0 x1) fun x46 =>
  OX (ldD S45 1 false x46) fun x47 =>
  OX (ldD S45 2 true x3) fun x48 =>
  OX (isoCall cf 15 [x47, x48]) fun x49 =>
  OX (binD .geq .num x49 (.i .i64 0)) fun x50 =>
  jn (fun (y52 : D) (y53 : D) (y54 : D) (y55 : D) (y56 : D) (y57 : D) (y58 : D) (y59 : D) (y60 : D) (S61 : Store) =>
  OX (ldD S61 3 true y54) fun x62 =>
  OX (isoCall cf 39 [x62]) fun x63 =>
  OX (ldD S61 3 true y56) fun x64 =>
  OX (ldD S61 3 true y58) fun x65 =>
  OX (isoCall cf 17 [x64, x65]) fun x66 =>
  OX (unD .not x66) fun x67 =>
  OX (gsel x67 false (ldD S61 3 true y54)) fun x68 =>
  OX (gsel x67 false (some y53)) fun x69 =>
  OX (gsel x67 false (isoCall cf 37 [x68, x69])) fun x70 =>
  OX (gsel x67 false (some y57)) fun x71 =>
  OX (gsel x67 false (faD 0 y54)) fun x72 =>
  OX (gsel x67 false (ldD S61 1 false x72)) fun x73 =>
  OX (gsel x67 false (some y53)) fun x74 =>
  OX (gsel x67 false (isoCall cf 41 [x73, x74])) fun x75 =>
  OX (gsel x67 false (iaD 1 x71 x75)) fun x76 =>
  OX (gsel x67 false (ldD S61 1 false x76)) fun x77 =>
  OX (gsel x67 false (binD .neq .bool x70 x77)) fun x78 =>
  OX (pickD x67 (.b true) x78) fun x79 =>
  OX (gsel x79 false (some x63)) fun x80 =>
  OX (gsel x79 false (faD 0 y54)) fun x81 =>
  OX (gsel x79 false (ldD S61 1 false x81)) fun x82 =>
  OX (gsel x79 false (some y57)) fun x83 =>
  OX (gsel x79 false (isoCall cf 42 [x82, x83])) fun x84 =>
  OX (gsel x79 false (isoCall cf 27 [x80, x84])) fun x85 =>
  OX (gsel x79 false (unD .not x85)) fun x86 =>
  OX (pickD x79 (.b true) x86) fun x87 =>
  WB x87
  (Post (.b false) S61)
  (OX (ldD S61 3 true y54) fun x88 =>
  OX (ldD S61 2 true y55) fun x89 =>
  OX (isoCall cf 38 [x88, x89, (.b true)]) fun x90 =>
  OX (ldD S61 3 true y54) fun x91 =>
  OX (ldD S61 2 true y55) fun x92 =>
  OX (isoCall cf 38 [x91, x92, (.b false)]) fun x93 =>
  OX (isoCall cf 17 [x90, x93]) fun x94 =>
  OX (unD .not x94) fun x95 =>
  OX (ldD S61 2 true y55) fun x96 =>
  OX (isoCall cf 15 [x63, x96]) fun x97 =>
  OX (binD .geq .num x97 (.i .i64 0)) fun x98 =>
  OX (binD .eql .bool x95 x98) fun x99 =>
  OX (gsel x99 true (some x63)) fun x100 =>
  OX (gsel x99 true (some x63)) fun x101 =>
  OX (gsel x99 true (isoCall cf 43 [x101])) fun x102 =>
  OX (gsel x99 true (isoCall cf 27 [x100, x102])) fun x103 =>
  OX (pickD x99 x103 (.b false)) fun x104 =>
  Post x104 S61)) fun k51 =>
  WB x50
  (OX (faD 0 x1) fun x105 =>
  OX (ldD S45 1 false x105) fun x106 =>
  OX (isoCall cf 40 [x40, x49, a2]) fun x107 =>
  OX (isoCall cf 18 [x106, x107]) fun x108 =>
  OX (stD S45 3 true x42 x108) fun S110 =>
  k51 D.top a3 x1 x3 x19 x40 x42 D.top D.top S110)
  (k51 a2 a3 x1 x3 x19 x40 x42 x49 x50 S45)))
theorem e9 (cf : CallF) (a0 : D) (a1 : D) (a2 : D) (a3 : D) (S : Store) (Post : D → Store → Prop) : wp cf c9 (frame0 d9 [a0, a1, a2, a3]) S (FinK d9.res Post) = s9 cf a0 a1 a2 a3 S Post := wpS_of (by kernel_rfl)
theorem f9 (a0 : D) (a1 : D) (a2 : D) (a3 : D) (S : Store) (Post : D → Store → Prop) (h : s9 (call dp) a0 a1 a2 a3 S Post) : ∃ r S', call dp 9 [a0, a1, a2, a3] S = some (r, S') ∧ Post r S' := call_s (f := d9) rfl ⟨rfl, by decide⟩ (by rw [← e9] at h; exact h)

end Go.Proofs.YtjlmeikcfdanmaaGreatDoor.DE

namespace Go.Proofs.YtjlmeikcfdanmaaGreatDoor.DE.V
open Go BT
set_option maxRecDepth 20000

theorem ixOf_mem {r : Row} : ∀ {l : List Row}, 0 ≤ ixOf r l ↔ r ∈ l
  | [] => by simp [ixOf]
  | x :: l => by
    have ih := ixOf_mem (r := r) (l := l)
    simp only [ixOf, List.mem_cons]
    split
    · rename_i h; simp [h]
    · rename_i h
      have hx : ¬ r = x := fun e => h e.symm
      simp only [hx, false_or, ← ih]
      split <;> omega

theorem v65 (nl : Bool) (l : List Row) (r : Row) (hb : Bd l.length) : isoCall (call dp) 65 [eRows nl l, .agg (eRow r)] = some (.b (decide (r ∈ l))) := by
  apply i65 _ _ _ (by simp [noRefL]) rfl
  have e := v50 nl l r hb
  have : decide (r ∈ l) = decide (0 ≤ ixOf r l) := by rw [decide_eq_decide, ixOf_mem]
  rw [this]
  simp [-OX_b, s65, e]

/-- The rows that are present. -/
def asg (ord rs : List Row) (i : Nat) : Bool := match ord[i]? with
  | some r => decide (r ∈ rs)
  | none => false

theorem asg_get {ord rs : List Row} {i : Nat} {r : Row} (h : ord[i]? = some r) : asg ord rs i = decide (r ∈ rs) := by simp [asg, h]

open Classical in
theorem v37 (nl nl' n2 : Bool) (ord rs : List Row) (t : T) (hn : nl = true → ord = []) (h7 : ord.length ≤ 7) (ho : OrdOk ord) (w : Wf ord.length t) (hr : Bd rs.length) :
    isoCall (call dp) 37 [eT nl nl' ord t, eRows n2 rs] = some (.b (fn t (asg ord rs))) := by
  have hsm := small h7 w
  obtain ⟨hL, hs, hw⟩ := post_nil t
  have hw := hw _ w
  have e33 : isoCall (call dp) 33 [eT nl nl' ord t] = some (.b true) := by
    have := v33 nl nl' ord (nds (post t [])) (code (post t []) t) hn (by rw [nds_len]; unfold Bd; omega) (by unfold Bd; omega)
    rw [decide_eq_true (VB_VT.2 ⟨t, VT_eT ho h7 w⟩)] at this
    exact this
  simp only [eT] at e33 ⊢
  generalize hLd : post t [] = L at *
  apply i37 _ _ _ (by simp [noRefL]) rfl
  rw [strip_eB]
  simp only [eB] at e33 ⊢
  simp [s37, e33]
  let J : Nat → List D → Store → Prop := fun q fr S => ∃ t' a4 a13, t'.size = q ∧ sub L t' ∧ fn t' (asg ord rs) = fn t (asg ord rs) ∧ sget S 0 = some (.box [eRows nl ord, eNds nl' (nds L), .i .i64 (code L t)]) ∧
    fr = mkf 34 [(1, eRows n2 rs), (2, .bx 0 0), (4, a4), (5, .i .i64 (code L t')), (13, a13)]
  refine W_loop J ?_ t.size _ _ ⟨t, _, _, rfl, hs, rfl, rfl, rfl⟩
  rintro q fr S ⟨t', a4, a13, rfl, ht', hf, hS, rfl⟩
  rw [← wp_W, e37_0]
  have l0 := sget_lt hS
  cases t' with
  | leaf b =>
    have : ¬ 2 ≤ code L (.leaf b) := by have := code_leaf_lt L b; omega
    simp [s37_0, this, e37_r0, s37_r0]
    rw [← hf]
    cases b <;> simp [code, fn]
  | node v l h =>
    have hge := code_node_ge L v l h
    have hlt := code_lt ht'
    have hpos : (code L (.node v l h) - 2).toNat = pos L (.node v l h) := by simp only [code]; omega
    have hwt := hw _ ht'
    have hkid := Cl_kids hL _ ht'
    have hia := iaD_nds' (nl := nl') .i64 (show 0 ≤ code L (.node v l h) - 2 by omega) (by rw [hpos]; exact nds_get ht')
    obtain ⟨x, hx⟩ : ∃ x, ord[v]? = some x := ⟨_, List.getElem?_eq_getElem hwt.1⟩
    have hir := iaD_rows (nl := nl) .i64 hx
    have e65 := v65 n2 rs x hr
    simp [-OX_b, s37_0, hge, hS, wrap64 (n := code L (.node v l h) - 2) ⟨by omega, by omega⟩, hia, nd, sget_push hS, hir, e65, jn_eq]
    by_cases hb : x ∈ rs
    · simp [hb]
      refine ⟨h.size, by simp only [T.size]; omega, h, _, _, rfl, hkid.2, ?_, sget_push hS, rfl⟩
      rw [← hf]; simp [fn, asg_get hx, hb]
    · simp [hb]
      refine ⟨l.size, by simp only [T.size]; omega, l, _, _, rfl, hkid.1, ?_, sget_push hS, rfl⟩
      rw [← hf]; simp [fn, asg_get hx, hb]

open Classical in
theorem v37_bad (nl nl' n2 : Bool) (ord rs : List Row) (ns : List Nd) (root : Int) (hn : nl = true → ord = []) (hb : Bd (ns.length + 2)) (hb' : Bd ord.length) (hv : ¬ VB ord ns root) :
    isoCall (call dp) 37 [eB nl nl' ord ns root, eRows n2 rs] = some (.b false) := by
  have e33 := v33 nl nl' ord ns root hn hb hb'
  simp only [hv, decide_false, eB] at e33
  apply i37 _ _ _ (by simp [noRefL]) rfl
  simp [s37, e33]

theorem v41 (nl n2 : Bool) (ord rs : List Row) (h7 : ord.length ≤ 7) (hr : Bd rs.length) :
    ∃ y : Nat, y < 2 ^ ord.length ∧ (∀ i, i < ord.length → bitsA y i = asg ord rs i) ∧ isoCall (call dp) 41 [eRows nl ord, eRows n2 rs] = some (.i .i64 y) := by
  let P : D → Prop := fun d => ∃ y : Nat, d = .i .i64 y ∧ y < 2 ^ ord.length ∧ (∀ i, i < ord.length → bitsA y i = asg ord rs i)
  suffices h : ∃ d, isoCall (call dp) 41 [eRows nl ord, eRows n2 rs] = some d ∧ P d by
    obtain ⟨d, e, y, rfl, h1, h2⟩ := h
    exact ⟨y, h1, h2, e⟩
  apply j41 _ _ _ (by simp [noRefL]) (by rintro r ⟨y, rfl, _⟩; rfl)
  simp [s41]
  let J : Nat → List D → Store → Prop := fun q fr S => ∃ k y a4 a10, k + q = ord.length ∧ y < 2 ^ k ∧ (∀ i, i < k → bitsA y i = asg ord rs i) ∧ fr = mkf 25 [(0, eRows nl ord), (1, eRows n2 rs), (4, a4), (5, .i .i64 (y : Nat)), (6, .i .i64 k), (10, a10)]
  refine W_loop J ?_ ord.length _ _ ⟨0, 0, _, _, by omega, by simp, by simp, rfl⟩
  rintro q fr S ⟨k, y, a4, a10, hk, hy, hbits, rfl⟩
  rw [← wp_W, e41_0]
  by_cases h : k < ord.length
  · have h' : (k : Int) < (ord.length : Int) := by omega
    obtain ⟨x, hx⟩ : ∃ x, ord[k]? = some x := ⟨_, List.getElem?_eq_getElem h⟩
    have hia := iaD_rows (nl := nl) .i64 hx
    have e15 := v15 n2 rs x hr
    have hsh := shl1 (n := k) (by omega)
    have wk := wrapS (show Bd k by unfold Bd; omega)
    have hp : 2 ^ k ≤ 128 := Nat.le_trans (Nat.pow_le_pow_right (by omega) (by omega : k ≤ 7)) (by decide)
    have wy : IntKind.i64.wrap ((y : Int) + ((2 ^ k : Nat) : Int)) = ((y + 2 ^ k : Nat) : Int) := by
      generalize 2 ^ k = m at *
      rw [wrap64 ⟨by omega, by omega⟩]; rfl
    by_cases hb : x ∈ rs
    · have hix := ixOf_mem.2 hb
      simp [-OX_b, -Int.natCast_pow, -Int.natCast_add, s41_0, h', hia, e15, hix, hsh, jn_eq, wy, wk]
      refine ⟨q - 1, by omega, k + 1, y + 2 ^ k, _, _, by omega, by rw [Nat.pow_succ]; omega, ?_, rfl⟩
      intro i hi
      by_cases e : i = k
      · subst e
        rw [asg_get hx]
        simp only [bitsA]
        rw [Nat.add_comm, Nat.testBit_two_pow_add_eq, Nat.testBit_lt_two_pow hy]
        simp [hb]
      · rw [← hbits i (by omega)]
        simp only [bitsA]
        rw [Nat.add_comm, Nat.testBit_two_pow_add_gt (by omega)]
    · have hix : ¬ 0 ≤ ixOf x rs := fun h => hb (ixOf_mem.1 h)
      simp [-OX_b, -Int.natCast_pow, -Int.natCast_add, s41_0, h', hia, e15, hix, jn_eq, wk]
      refine ⟨q - 1, by omega, k + 1, y, _, _, by omega, by rw [Nat.pow_succ]; omega, ?_, rfl⟩
      intro i hi
      by_cases e : i = k
      · subst e
        rw [asg_get hx]
        simp only [bitsA]
        rw [Nat.testBit_lt_two_pow hy]
        simp [hb]
      · exact hbits i (by omega)
  · have hk' : k = ord.length := by omega
    subst hk'
    simp [s41_0, e41_r0, s41_r0]
    exact ⟨y, rfl, hy, hbits⟩

theorem v40 (nl : Bool) (n v : Nat) (b : Bool) (h7 : n ≤ 7) (hv : v < n) (f : (Nat → Bool) → Bool) (hd : Dep n 0 f) :
    isoCall (call dp) 40 [eBools nl (tabOf n f), .i .i64 v, .b b] = some (eBools false (tabOf n fun s => f (upd s v b))) := by
  have hp := pow7 h7
  apply i40 _ _ _ _ (by simp [noRefL]) (by simp)
  simp [s40]
  let F : Nat → Bool := fun x => f (upd (bitsA x) v b)
  let J : Nat → List D → Store → Prop := fun q fr S => ∃ k a6 a14 m o, k + q = 2 ^ n ∧ LivC S m k o ∧
    fr = mkf 51 [(0, eBools nl (tabOf n f)), (1, .i .i64 v), (2, .b b), (6, a6), (7, .sl 1 m (((List.range k).map F).map fun b => [.b b]) o), (8, .i .i64 k), (14, a14)]
  refine W_loop J ?_ (2 ^ n) _ _ ⟨0, _, _, false, .cap0, by simp, .inr ⟨rfl, rfl, rfl⟩, rfl⟩
  rintro q fr S ⟨k, a6, a14, m, o, hk, hl, rfl⟩
  rw [← wp_W, e40_0]
  by_cases h : k < 2 ^ n
  · obtain ⟨t, S', e, ha, _⟩ := app_bools (n' := false) (o' := .ro) F k hl (by omega)
    have h' : (k : Int) < ((tabOf n f).length : Int) := by rw [tabOf_len]; omega
    have fin : ∃ m', m' < q ∧ J m' (mkf 51 [(0, eBools nl (tabOf n f)), (1, .i .i64 v), (2, .b b), (6, a6), (7, .sl 1 false (((List.range (k + 1)).map F).map fun b => [.b b]) (.tok t)), (8, .i .i64 ((k + 1 : Nat) : Int)), (14, .top)]) S' :=
      ⟨q - 1, by omega, k + 1, _, _, false, .tok t, by omega, .tok ha, rfl⟩
    have wk := wrapS (show Bd k by unfold Bd; omega)
    have hsh := shrN (a := k) (v := v) (by omega)
    have hrem := remN (a := k / 2 ^ v) (b := 2) (by omega)
    rw [show ((2 : Nat) : Int) = 2 from rfl] at hrem
    have hs1 := shl1 (n := v) (by omega)
    have hpv : 2 ^ v ≤ 128 := Nat.le_trans (Nat.pow_le_pow_right (by omega) (by omega : v ≤ 7)) (by decide)
    have two : k / 2 ^ v % 2 = 0 ∨ k / 2 ^ v % 2 = 1 := by omega
    have ldb : ∀ (S : Store) (c : Bool), ldD S 1 false (.el [.b c] 0) = some (.b c) := fun _ _ => rfl
    -- which entry is read, and what it is
    have out : ∀ y : Nat, y < 2 ^ n → (∀ i, i < n → bitsA y i = upd (bitsA k) v b i) → iaD 1 (eBools nl (tabOf n f)) (.i .i64 y) = some (.el [.b (F k)] 0) := by
      intro y hy hb
      rw [ia_bools (tabOf_get f hy)]
      congr 4
      exact hd _ _ fun i _ hi => hb i hi
    rcases two with hz | hz
    · have z1 : decide (((k / 2 ^ v % 2 : Nat) : Int) = 0) = true := by rw [hz]; rfl
      have z2 : decide (((k / 2 ^ v % 2 : Nat) : Int) = 1) = false := by rw [hz]; rfl
      cases b with
      | true =>
        have wy : binD .add .num (.i .i64 k) (.i .i64 ((2 ^ v : Nat) : Int)) = some (.i .i64 ((k + 2 ^ v : Nat) : Int)) := by
          rw [bin_add]; generalize 2 ^ v = m at *; rw [wrap64 ⟨by omega, by omega⟩]; rfl
        have hia := out (k + 2 ^ v) (setB2 n (by omega) v hv k h hz) (fun i hi => by
          simp only [bitsA, upd]
          rw [setB1 v (by omega) k (by omega) hz i (by omega)]
          by_cases e : i = v <;> simp [e])
        simp only [s40_0, len_bools, OX_some, bin_lss, h', decide_true, WB_b, if_true, gsel_tt, gsel_ff, gsel_ft, gsel_tf, gsel_skip, hsh, hrem, bin_eql, z1, z2, pick_t, pick_f, jn_eq, hs1, wy, un_not, Bool.not_true, Bool.false_eq_true, if_false, hia, ldb, cellsV_b, e, wk, bin_add, Qseq_normal]
        exact fin
      | false =>
        have hia := out k h (fun i hi => by
          simp only [bitsA, upd]
          by_cases e : i = v
          · subst e; rw [if_pos rfl, Nat.testBit_eq_decide_div_mod_eq, hz]; rfl
          · rw [if_neg e])
        simp only [s40_0, len_bools, OX_some, bin_lss, h', decide_true, WB_b, if_true, gsel_tt, gsel_ff, gsel_ft, gsel_tf, gsel_skip, hsh, hrem, bin_eql, z1, z2, pick_t, pick_f, jn_eq, un_not, Bool.not_false, Bool.false_eq_true, if_false, hia, ldb, cellsV_b, e, wk, bin_add, Qseq_normal]
        exact fin
    · have z1 : decide (((k / 2 ^ v % 2 : Nat) : Int) = 0) = false := by rw [hz]; rfl
      have z2 : decide (((k / 2 ^ v % 2 : Nat) : Int) = 1) = true := by rw [hz]; rfl
      obtain ⟨hle, hbit⟩ := setB0 v (by omega) k (by omega) hz
      cases b with
      | true =>
        have hia := out k h (fun i hi => by
          simp only [bitsA, upd]
          by_cases e : i = v
          · subst e; rw [if_pos rfl, Nat.testBit_eq_decide_div_mod_eq, hz]; rfl
          · rw [if_neg e])
        simp only [s40_0, len_bools, OX_some, bin_lss, h', decide_true, WB_b, if_true, gsel_tt, gsel_ff, gsel_ft, gsel_tf, gsel_skip, hsh, hrem, bin_eql, z1, z2, pick_t, pick_f, jn_eq, un_not, Bool.not_true, Bool.false_eq_true, if_false, hia, ldb, cellsV_b, e, wk, bin_add, Qseq_normal]
        exact fin
      | false =>
        have wy : binD .sub .num (.i .i64 k) (.i .i64 ((2 ^ v : Nat) : Int)) = some (.i .i64 ((k - 2 ^ v : Nat) : Int)) := by
          rw [bin_sub]; generalize 2 ^ v = m at *; rw [wrap64 ⟨by omega, by omega⟩]; congr 2; omega
        have hia := out (k - 2 ^ v) (Nat.lt_of_le_of_lt (Nat.sub_le _ _) h) (fun i hi => by
          simp only [bitsA, upd]
          rw [hbit i (by omega)]
          by_cases e : i = v <;> simp [e])
        simp only [s40_0, len_bools, OX_some, bin_lss, h', decide_true, WB_b, if_true, gsel_tt, gsel_ff, gsel_ft, gsel_tf, gsel_skip, hsh, hrem, bin_eql, z1, z2, pick_t, pick_f, jn_eq, hs1, wy, un_not, Bool.not_false, Bool.false_eq_true, if_false, hia, ldb, cellsV_b, e, wk, bin_add, Qseq_normal]
        exact fin
  · have hk' : k = 2 ^ n := by omega
    have h' : ¬ (k : Int) < ((tabOf n f).length : Int) := by rw [tabOf_len]; omega
    simp [-List.map_map, s40_0, h', e40_r0, s40_r0]
    rw [hk'] at hl ⊢
    rw [hl.false (Nat.two_pow_pos _)]
    rfl

end Go.Proofs.YtjlmeikcfdanmaaGreatDoor.DE.V
