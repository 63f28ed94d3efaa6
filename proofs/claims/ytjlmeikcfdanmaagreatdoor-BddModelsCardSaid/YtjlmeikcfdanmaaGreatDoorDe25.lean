/-
  THE PROGRAM's VALUES AS DATA: rows, nodes, diagrams; the store; maps as lists.
-/
import Derived.Test.YtjlmeikcfdanmaaGreatDoorDe24
namespace Go.Proofs.YtjlmeikcfdanmaaGreatDoor.DE.V
open Go

/-! The store. -/
theorem sget_lt {α : Type} {e : α} : ∀ {S : List α} {id : Nat}, sget S id = some e → id < S.length
  | [], _, h => by simp [sget] at h
  | x :: S, id, h => by
    simp only [sget] at h
    split at h
    · rename_i q; simp [q]
    · have := sget_lt h; simp; omega

@[simp] theorem sget_top {α : Type} (e : α) (S : List α) : sget (e :: S) S.length = some e := by simp [sget]
theorem sget_push {α : Type} {e x : α} {S : List α} {id : Nat} (h : sget S id = some x) : sget (e :: S) id = some x := by
  have := sget_lt h
  simp only [sget]
  rw [if_neg (by omega)]; exact h
@[simp] theorem sset_top {α : Type} (e x : α) (S : List α) : sset (e :: S) S.length x = x :: S := by simp [sset]
theorem sset_len {α : Type} (x : α) : ∀ (S : List α) (id : Nat), (sset S id x).length = S.length
  | [], _ => rfl
  | e :: S, id => by
    simp only [sset]
    split
    · rfl
    · simp [sset_len x S id]
theorem sget_sset {α : Type} (x : α) : ∀ {S : List α} {id : Nat}, id < S.length → sget (sset S id x) id = some x
  | [], _, h => by simp at h
  | e :: S, id, h => by
    simp only [sset]
    split
    · rename_i q; simp [sget, q]
    · rename_i q
      simp only [sget, sset_len]
      rw [if_neg q]
      exact sget_sset x (by simp at h; omega)
theorem sget_sset_ne {α : Type} (x : α) : ∀ {S : List α} {id j : Nat}, j ≠ id → sget (sset S id x) j = sget S j
  | [], _, _, _ => rfl
  | e :: S, id, j, h => by
    simp only [sset]
    split
    · rename_i q
      subst q
      simp [sget, h]
    · simp only [sget, sset_len]
      rw [sget_sset_ne x h]

/-! A truth value is split where it comes up. -/
@[simp high] theorem OX_b (c : Bool) (K : D → Prop) : OX (some (.b c)) K = if c = true then K (.b true) else K (.b false) := by cases c <;> rfl
theorem OX_none {α : Type} (K : α → Prop) : OX none K = False := rfl

/-! Integers of the machine. -/
def in64 (n : Int) : Prop := -9223372036854775808 ≤ n ∧ n ≤ 9223372036854775807
/-! Values. -/
abbrev Row := Int × Int
abbrev Nd := Int × Int × Int

def eRow (r : Row) : List D := [.i .i64 r.1, .i .i64 r.2]
def eNd (x : Nd) : List D := [.i .i64 x.1, .i .i64 x.2.1, .i .i64 x.2.2]
def eRows (nl : Bool) (l : List Row) : D := .sl 2 nl (l.map eRow) .ro
def eNds (nl : Bool) (l : List Nd) : D := .sl 3 nl (l.map eNd) .ro
def eB (nl nl' : Bool) (ord : List Row) (ns : List Nd) (root : Int) : D := .agg [eRows nl ord, eNds nl' ns, .i .i64 root]

def okRow (r : Row) : Prop := in64 r.1 ∧ in64 r.2
def okNd64 (r : Nd) : Prop := in64 r.1 ∧ in64 r.2.1 ∧ in64 r.2.2
def rowOk (r : Row) : Bool := decide (1 ≤ r.1) && decide (1 ≤ r.2)

theorem noRefL_eRow (r : Row) : noRefL (eRow r) = true := rfl
theorem noRefL_eNd (r : Nd) : noRefL (eNd r) = true := rfl
theorem noRefLL_map {α : Type} (f : α → List D) (h : ∀ x, noRefL (f x) = true) : ∀ l : List α, noRefLL (l.map f) = true
  | [] => rfl
  | x :: l => by simp [noRefLL, h x, noRefLL_map f h l]
@[simp] theorem noRef_eRows (nl : Bool) (l : List Row) : noRef (eRows nl l) = true := by simp [eRows, noRef, noRefLL_map eRow noRefL_eRow l]
@[simp] theorem noRef_eNds (nl : Bool) (l : List Nd) : noRef (eNds nl l) = true := by simp [eNds, noRef, noRefLL_map eNd noRefL_eNd l]
@[simp] theorem noRef_eB (nl nl' : Bool) (ord : List Row) (ns : List Nd) (root : Int) : noRef (eB nl nl' ord ns root) = true := by simp [eB, noRef, noRefL]
@[simp] theorem noRef_row (r : Row) : noRef (.agg (eRow r)) = true := (rfl)
@[simp] theorem noRef_nd (r : Nd) : noRef (.agg (eNd r)) = true := (rfl)
@[simp] theorem strip_eRows (nl : Bool) (l : List Row) : strip (eRows nl l) = eRows nl l := (rfl)
@[simp] theorem strip_eNds (nl : Bool) (l : List Nd) : strip (eNds nl l) = eNds nl l := (rfl)
@[simp] theorem strip_eB (nl nl' : Bool) (ord : List Row) (ns : List Nd) (root : Int) : strip (eB nl nl' ord ns root) = eB nl nl' ord ns root := (rfl)
@[simp] theorem strip_row (r : Row) : strip (.agg (eRow r)) = .agg (eRow r) := (rfl)
@[simp] theorem strip_nd (r : Nd) : strip (.agg (eNd r)) = .agg (eNd r) := (rfl)
@[simp] theorem strip_i (k : IntKind) (n : Int) : strip (.i k n) = .i k n := (rfl)
@[simp] theorem strip_b (n : Bool) : strip (.b n) = .b n := (rfl)
@[simp] theorem stripT_eRows (nl : Bool) (l : List Row) : stripT (eRows nl l) = eRows nl l := (rfl)
@[simp] theorem stripT_eNds (nl : Bool) (l : List Nd) : stripT (eNds nl l) = eNds nl l := (rfl)
@[simp] theorem stripT_eB (nl nl' : Bool) (ord : List Row) (ns : List Nd) (root : Int) : stripT (eB nl nl' ord ns root) = eB nl nl' ord ns root := (rfl)
@[simp] theorem stripT_i (k : IntKind) (n : Int) : stripT (.i k n) = .i k n := (rfl)
@[simp] theorem stripT_b (n : Bool) : stripT (.b n) = .b n := (rfl)
@[simp] theorem noRef_i (k : IntKind) (n : Int) : noRef (.i k n) = true := (rfl)
@[simp] theorem noRef_b (n : Bool) : noRef (.b n) = true := (rfl)

theorem wrap64 {n : Int} (h : in64 n) : IntKind.wrap .i64 n = n := by
  obtain ⟨h1, h2⟩ := h
  rcases Int.lt_or_le n 0 with h | h
  · have e : n % 18446744073709551616 = n + 18446744073709551616 := by omega
    simp [IntKind.wrap, IntKind.signed, IntKind.bits, e]
    omega
  · have e : n % 18446744073709551616 = n := by omega
    simp [IntKind.wrap, IntKind.signed, IntKind.bits, e]
    omega

/-! Slices of structs. -/
theorem lenD_rows (nl : Bool) (l : List Row) : lenD false (eRows nl l) = some (.i .i64 l.length) := by simp [eRows, lenD]
theorem lenD_nds (nl : Bool) (l : List Nd) : lenD false (eNds nl l) = some (.i .i64 l.length) := by simp [eNds, lenD]
theorem iaD_rows {nl : Bool} {l : List Row} {n : Nat} {r : Row} (k : IntKind) (h : l[n]? = some r) : iaD 2 (eRows nl l) (.i k n) = some (.el (eRow r) 0) := by simp [eRows, iaD, h]
theorem iaD_nds {nl : Bool} {l : List Nd} {n : Nat} {r : Nd} (k : IntKind) (h : l[n]? = some r) : iaD 3 (eNds nl l) (.i k n) = some (.el (eNd r) 0) := by simp [eNds, iaD, h]
theorem iaD_nds' {nl : Bool} {l : List Nd} {n : Int} {r : Nd} (k : IntKind) (h0 : 0 ≤ n) (h : l[n.toNat]? = some r) : iaD 3 (eNds nl l) (.i k n) = some (.el (eNd r) 0) := by simp [eNds, iaD, h, h0]
@[simp] theorem ldD_el_row (S : Store) (r : Row) : ldD S 2 true (.el (eRow r) 0) = some (.agg (eRow r)) := by simp [ldD, rdK, eRow]
@[simp] theorem ldD_el_nd (S : Store) (r : Nd) : ldD S 3 true (.el (eNd r) 0) = some (.agg (eNd r)) := by simp [ldD, rdK, eNd]

theorem seqL_row (r s : Row) : seqL [.i, .i] (eRow r) (eRow s) = some (decide (r = s)) := by
  have : decide (r = s) = (r.1 == s.1 && r.2 == s.2) := by
    rw [Bool.eq_iff_iff]; simp [Prod.ext_iff]
  simp [eRow, seqL, isSK, seq1, this]
theorem seqL_nd (r s : Nd) : seqL [.i, .i, .i] (eNd r) (eNd s) = some (decide (r = s)) := by
  have : decide (r = s) = (r.1 == s.1 && (r.2.1 == s.2.1 && r.2.2 == s.2.2)) := by
    rw [Bool.eq_iff_iff]; simp [Prod.ext_iff]
  simp [eNd, seqL, isSK, seq1, this]

theorem isKey_row (r : Row) : isKey (.agg [.i, .i]) (.agg (eRow r)) = true := rfl
theorem isKey_nd (r : Nd) : isKey (.agg [.i, .i, .i]) (.agg (eNd r)) = true := rfl
theorem isKey_i (k : IntKind) (r : Int) : isKey (.one .i) (.i k r) = true := rfl

/-! The operations where the values' shapes are seen. -/
section
variable (k : IntKind) (a b : Int) (S : Store) (cs : List D) (id o p : Nat) (K : D → Store → Prop)
def ldE : Option Ent → Nat → Bool → Nat → Option D
  | some (.box cs), k, g, o => rdK cs o k g
  | _, _, _, _ => none
@[simp] theorem ldD_bx (k : Nat) (g : Bool) : ldD S k g (.bx id o) = ldE (sget S id) k g o := by
  simp only [ldD, ldE]
  cases sget S id with
  | none => rfl
  | some e => cases e <;> rfl
@[simp] theorem ldE_box (k : Nat) (g : Bool) : ldE (some (.box cs)) k g o = rdK cs o k g := (rfl)
@[simp] theorem ldD_el (k : Nat) (g : Bool) : ldD S k g (.el cs o) = rdK cs o k g := (rfl)
@[simp] theorem rdK_one (k : Nat) : rdK cs o k false = cs[o]? := (rfl)
theorem rdK_all {cs : List D} {k : Nat} (h : cs.length = k) : rdK cs 0 k true = some (.agg cs) := by
  subst h; simp [rdK]
@[simp] theorem rdK_row (r : Row) : rdK (eRow r) 0 2 true = some (.agg (eRow r)) := rdK_all rfl
@[simp] theorem rdK_nd (r : Nd) : rdK (eNd r) 0 3 true = some (.agg (eNd r)) := rdK_all rfl
@[simp] theorem rdK_lit1 (x : D) : rdK [x] 0 1 true = some (.agg [x]) := (rfl)
@[simp] theorem rdK_lit2 (x y : D) : rdK [x, y] 0 2 true = some (.agg [x, y]) := (rfl)
@[simp] theorem rdK_lit3 (x y z : D) : rdK [x, y, z] 0 3 true = some (.agg [x, y, z]) := (rfl)
@[simp high] theorem row_0 (r : Row) : (eRow r)[0]? = some (.i .i64 r.1) := (rfl)
@[simp high] theorem row_1 (r : Row) : (eRow r)[1]? = some (.i .i64 r.2) := (rfl)
@[simp high] theorem nd_0 (r : Nd) : (eNd r)[0]? = some (.i .i64 r.1) := (rfl)
@[simp high] theorem nd_1 (r : Nd) : (eNd r)[1]? = some (.i .i64 r.2.1) := (rfl)
@[simp high] theorem nd_2 (r : Nd) : (eNd r)[2]? = some (.i .i64 r.2.2) := (rfl)
@[simp] theorem row_len (r : Row) : (eRow r).length = 2 := (rfl)
@[simp] theorem nd_len (r : Nd) : (eNd r).length = 3 := (rfl)
@[simp] theorem allCell_row (r : Row) : allCell (eRow r) = true := (rfl)
@[simp] theorem allCell_nd (r : Nd) : allCell (eNd r) = true := (rfl)
@[simp] theorem isCell_rows (nl : Bool) (l : List Row) : isCell (eRows nl l) = true := (rfl)
@[simp] theorem isCell_nds (nl : Bool) (l : List Nd) : isCell (eNds nl l) = true := (rfl)
@[simp] theorem isCell_i : isCell (.i k a) = true := (rfl)
@[simp] theorem isCell_b (c : Bool) : isCell (.b c) = true := (rfl)
@[simp] theorem isCell_bx : isCell (.bx id o) = true := (rfl)
@[simp] theorem isCell_mp : isCell (.mp id) = true := (rfl)
@[simp] theorem isCell_fn : isCell (.fn id cs) = true := (rfl)
@[simp] theorem isCell_nilm : isCell .nilm = true := (rfl)
@[simp] theorem isCell_sl (k : Nat) (n : Bool) (xs : List (List D)) (o : Own) : isCell (.sl k n xs o) = true := (rfl)
@[simp] theorem allCell_nil : allCell [] = true := (rfl)
@[simp] theorem allCell_cons (x : D) : allCell (x :: cs) = (isCell x && allCell cs) := (rfl)
@[simp] theorem faD_bx : faD o (.bx id p) = some (.bx id (p + o)) := (rfl)
@[simp] theorem faD_el : faD o (.el cs p) = some (.el cs (p + o)) := (rfl)
theorem cellsK_agg {cs : List D} {k : Nat} (h : cs.length = k) (h' : allCell cs = true) : cellsK k true (.agg cs) = some cs := by simp [cellsK, h, h']
@[simp] theorem cellsK_row (r : Row) : cellsK 2 true (.agg (eRow r)) = some (eRow r) := (rfl)
@[simp] theorem cellsK_nd (r : Nd) : cellsK 3 true (.agg (eNd r)) = some (eNd r) := (rfl)
@[simp] theorem cellsK_eB (nl nl' : Bool) (ord : List Row) (ns : List Nd) (root : Int) : cellsK 3 true (eB nl nl' ord ns root) = some [eRows nl ord, eNds nl' ns, .i .i64 root] := (rfl)
@[simp] theorem cellsK_i (m : Nat) : cellsK m false (.i k a) = some [.i k a] := (rfl)
@[simp] theorem cellsK_b (m : Nat) (c : Bool) : cellsK m false (.b c) = some [.b c] := (rfl)
@[simp] theorem cellsK_bx (m : Nat) : cellsK m false (.bx id o) = some [.bx id o] := (rfl)
@[simp] theorem cellsK_mp (m : Nat) : cellsK m false (.mp id) = some [.mp id] := (rfl)
@[simp] theorem cellsK_fn (m : Nat) : cellsK m false (.fn id cs) = some [.fn id cs] := (rfl)
@[simp] theorem cellsK_rows (m : Nat) (nl : Bool) (l : List Row) : cellsK m false (eRows nl l) = some [eRows nl l] := (rfl)
@[simp] theorem cellsK_nds (m : Nat) (nl : Bool) (l : List Nd) : cellsK m false (eNds nl l) = some [eNds nl l] := (rfl)
@[simp] theorem cellsK_sl (m k : Nat) (n : Bool) (xs : List (List D)) (o : Own) : cellsK m false (.sl k n xs o) = some [.sl k n xs o] := (rfl)
@[simp] theorem cellsK_lit3 (x y z : D) (hx : isCell x = true) (hy : isCell y = true) (hz : isCell z = true) : cellsK 3 true (.agg [x, y, z]) = some [x, y, z] := cellsK_agg rfl (by simp [hx, hy, hz])
@[simp] theorem cellsK_lit2 (x y : D) (hx : isCell x = true) (hy : isCell y = true) : cellsK 2 true (.agg [x, y]) = some [x, y] := cellsK_agg rfl (by simp [hx, hy])
@[simp] theorem bxx_eq (k : Nat) (g : Bool) (x : D) : bxx k g x S K = OX (cellsK k g x) fun cs => K (.bx S.length 0) (.box cs :: S) := (rfl)
@[simp] theorem al_eq (z : List D) : al z S K = K (.bx S.length 0) (.box z :: S) := (rfl)
@[simp] theorem mm_eq : mm S K = K (.mp S.length) (.map [] :: S) := (rfl)
@[simp] theorem bin_geq : binD .geq .num (.i k a) (.i k b) = some (.b (decide (b ≤ a))) := by simp [binD, intOp]
@[simp] theorem bin_leq : binD .leq .num (.i k a) (.i k b) = some (.b (decide (a ≤ b))) := by simp [binD, intOp]
@[simp] theorem bin_lss : binD .lss .num (.i k a) (.i k b) = some (.b (decide (a < b))) := by simp [binD, intOp]
@[simp] theorem bin_gtr : binD .gtr .num (.i k a) (.i k b) = some (.b (decide (b < a))) := by simp [binD, intOp]
@[simp] theorem bin_eql : binD .eql .num (.i k a) (.i k b) = some (.b (decide (a = b))) := by
  simp only [binD, intOp, if_true]; congr 2
@[simp] theorem bin_neq : binD .neq .num (.i k a) (.i k b) = some (.b (!decide (a = b))) := by
  simp only [binD, intOp, if_true]; congr 2
@[simp] theorem bin_add : binD .add .num (.i k a) (.i k b) = some (.i k (k.wrap (a + b))) := by simp [binD, intOp]
@[simp] theorem bin_sub : binD .sub .num (.i k a) (.i k b) = some (.i k (k.wrap (a - b))) := by simp [binD, intOp]
@[simp] theorem bin_beql (c d : Bool) : binD .eql .bool (.b c) (.b d) = some (.b (c == d)) := (rfl)
@[simp] theorem bin_bneq (c d : Bool) : binD .neq .bool (.b c) (.b d) = some (.b (!(c == d))) := (rfl)
@[simp] theorem bin_eql_row (r s : Row) : binD .eql (.agg [.i, .i]) (.agg (eRow r)) (.agg (eRow s)) = some (.b (decide (r = s))) := by simp only [binD, seqL_row, eqD]
@[simp] theorem bin_neq_row (r s : Row) : binD .neq (.agg [.i, .i]) (.agg (eRow r)) (.agg (eRow s)) = some (.b (!decide (r = s))) := by simp only [binD, seqL_row, eqD]
@[simp] theorem bin_eql_nd (r s : Nd) : binD .eql (.agg [.i, .i, .i]) (.agg (eNd r)) (.agg (eNd s)) = some (.b (decide (r = s))) := by simp only [binD, seqL_nd, eqD]
@[simp] theorem bin_neq_nd (r s : Nd) : binD .neq (.agg [.i, .i, .i]) (.agg (eNd r)) (.agg (eNd s)) = some (.b (!decide (r = s))) := by simp only [binD, seqL_nd, eqD]
@[simp] theorem bin_nil_rows (nl : Bool) (l : List Row) (m : Nat) (o : Own) : binD .eql .sl (eRows nl l) (.sl m true [] o) = some (.b nl) := (rfl)
@[simp] theorem bin_nil_nds (nl : Bool) (l : List Nd) (m : Nat) (o : Own) : binD .eql .sl (eNds nl l) (.sl m true [] o) = some (.b nl) := (rfl)
@[simp] theorem bin_mapnil : binD .eql .map (.mp id) .nilm = some (.b false) := (rfl)
@[simp] theorem bin_nilmap : binD .eql .map .nilm .nilm = some (.b true) := (rfl)
@[simp] theorem un_not (c : Bool) : unD .not (.b c) = some (.b (!c)) := (rfl)
@[simp] theorem pick_t (x y : D) : pickD (.b true) x y = some x := (rfl)
@[simp] theorem pick_f (x y : D) : pickD (.b false) x y = some y := (rfl)
@[simp] theorem ext_eq (j : Nat) : extD (.tup cs) j = cs[j]? := (rfl)
@[simp] theorem fnD_fn : fnD (.fn id cs) = some (id, cs) := (rfl)
@[simp] theorem lenD_rows' (nl : Bool) (l : List Row) : lenD false (eRows nl l) = some (.i .i64 l.length) := lenD_rows nl l
@[simp] theorem lenD_nds' (nl : Bool) (l : List Nd) : lenD false (eNds nl l) = some (.i .i64 l.length) := lenD_nds nl l
@[simp] theorem lenD_sl (k : Nat) (n : Bool) (xs : List (List D)) (o : Own) : lenD false (.sl k n xs o) = some (.i .i64 xs.length) := (rfl)
@[simp] theorem cellsV_nil (k : Nat) (g : Bool) : cellsV k g [] = some [] := (rfl)
@[simp] theorem cellsV_nd (r : Nd) : cellsV 3 true [.agg (eNd r)] = some [eNd r] := (rfl)
@[simp] theorem cellsV_row (r : Row) : cellsV 2 true [.agg (eRow r)] = some [eRow r] := (rfl)
@[simp] theorem cellsV_i : cellsV 1 false [.i k a] = some [[.i k a]] := (rfl)
@[simp] theorem cellsV_b (c : Bool) : cellsV 1 false [.b c] = some [[.b c]] := (rfl)
@[simp] theorem bslO_nil (k : Nat) : bslO k [] S = (.sl k false [] .cap0, S) := (rfl)
theorem app_cap0 {k : Nat} {n n' : Bool} {ys : List (List D)} {o : Own} (h : ys.length ≤ maxLenD) : appD k false (.sl k n [] .cap0) (.sl k n' ys o) S = some (if ys = [] then (.sl k n [] .cap0, S) else (.sl k false ys (.tok S.length), .tok true :: S)) := by
  simp only [appD, List.length_nil, Nat.zero_add, h, and_self, true_or, if_true]
  cases ys <;> rfl
theorem app_nil {k : Nat} {n' : Bool} {ys : List (List D)} {o o' : Own} (h : ys.length ≤ maxLenD) (ho : ∀ t, o ≠ .tok t) : appD k false (.sl k true [] o) (.sl k n' ys o') S = some (if ys = [] then (.sl k true [] o, S) else (.sl k false ys (.tok S.length), .tok true :: S)) := by
  simp only [appD, List.length_nil, Nat.zero_add, h, and_self, true_or, if_true]
  cases o with
  | tok t => exact absurd rfl (ho t)
  | ro => cases ys <;> rfl
  | cap0 => cases ys <;> rfl
theorem app_tok {k : Nat} {n' : Bool} {xs ys : List (List D)} {o' : Own} {t : Nat} (h : xs.length + ys.length ≤ maxLenD) (hs : sget S t = some (.tok true)) : appD k false (.sl k false xs (.tok t)) (.sl k n' ys o') S = some (.sl k false (xs ++ ys) (.tok S.length), .tok true :: sset S t (.tok false)) := by
  simp only [appD, h, and_self, true_or, if_true, hs]
  rfl
def stE : Option Ent → Store → Nat → Nat → Bool → Nat → D → Option Store
  | some (.box cs), S, id, k, g, o, v => match cellsK k g v with
    | some l => if o + k ≤ cs.length then some (sset S id (.box (splice cs o l))) else none
    | none => none
  | _, _, _, _, _, _, _ => none
@[simp] theorem stD_bx (k : Nat) (g : Bool) (v : D) : stD S k g (.bx id o) v = stE (sget S id) S id k g o v := by
  simp only [stD, stE]
  cases sget S id with
  | none => rfl
  | some e => cases e <;> rfl
theorem stE_box {k : Nat} {g : Bool} {v : D} {l : List D} (h : cellsK k g v = some l) (h' : o + k ≤ cs.length) : stE (some (.box cs)) S id k g o v = some (sset S id (.box (splice cs o l))) := by
  simp only [stE, h, if_pos h']
@[simp] theorem stE_box' (k : Nat) (g : Bool) (v : D) : stE (some (.box cs)) S id k g o v = (cellsK k g v).bind fun l => if o + k ≤ cs.length then some (sset S id (.box (splice cs o l))) else none := by
  simp only [stE]
  cases cellsK k g v <;> rfl
@[simp] theorem splice_nil : splice cs o [] = cs := (rfl)
@[simp] theorem splice_cons (x : D) (l : List D) : splice cs o (x :: l) = splice (fset cs o x) (o + 1) l := (rfl)
@[simp] theorem fset_zero (x y : D) : fset (x :: cs) 0 y = y :: cs := (rfl)
@[simp] theorem fset_succ (x y : D) (n : Nat) : fset (x :: cs) (n + 1) y = x :: fset cs n y := (rfl)
@[simp] theorem splice_row (x y : D) (r : Row) : splice [x, y] 0 (eRow r) = eRow r := (rfl)
@[simp] theorem splice_nd (x y z : D) (r : Nd) : splice [x, y, z] 0 (eNd r) = eNd r := (rfl)
theorem cellsK_cell {v : D} (h : isCell v = true) (k : Nat) : cellsK k false v = some [v] := by simp [cellsK, h]
@[simp high] theorem stE1_0 (x v : D) (h : isCell v = true) : stE (some (.box [x])) S id 1 false 0 v = some (sset S id (.box [v])) := by simp [cellsK_cell h]
@[simp high] theorem stE2_0 (x y v : D) (h : isCell v = true) : stE (some (.box [x, y])) S id 1 false 0 v = some (sset S id (.box [v, y])) := by simp [cellsK_cell h]
@[simp high] theorem stE2_1 (x y v : D) (h : isCell v = true) : stE (some (.box [x, y])) S id 1 false 1 v = some (sset S id (.box [x, v])) := by simp [cellsK_cell h]
@[simp high] theorem stE3_0 (x y z v : D) (h : isCell v = true) : stE (some (.box [x, y, z])) S id 1 false 0 v = some (sset S id (.box [v, y, z])) := by simp [cellsK_cell h]
@[simp high] theorem stE3_1 (x y z v : D) (h : isCell v = true) : stE (some (.box [x, y, z])) S id 1 false 1 v = some (sset S id (.box [x, v, z])) := by simp [cellsK_cell h]
@[simp high] theorem stE3_2 (x y z v : D) (h : isCell v = true) : stE (some (.box [x, y, z])) S id 1 false 2 v = some (sset S id (.box [x, y, v])) := by simp [cellsK_cell h]
@[simp] theorem stripL_nil : stripL [] = [] := (rfl)
@[simp] theorem stripL_cons (x : D) : stripL (x :: cs) = strip x :: stripL cs := (rfl)
@[simp] theorem stripT_tup : stripT (.tup cs) = .tup (stripL cs) := (rfl)
@[simp] theorem sget_cons (e : Ent) : sget (e :: S) id = if id = S.length then some e else sget S id := (rfl)
@[simp] theorem sset_cons (e x : Ent) : sset (e :: S) id x = if id = S.length then x :: S else e :: sset S id x := (rfl)
end

/-! Equality of values: each is equal to itself. -/
theorem oeq_self (o : Own) : oeq o o = true := by cases o <;> simp [oeq]
mutual
theorem deq_self : ∀ d : D, deq d d = true
  | .top => rfl
  | .b x => by simp [deq]
  | .i k n => by simp [deq]
  | .s l => by simp [deq]
  | .sl k n xs o => by simp [deq, oeq_self, deqLL_self xs]
  | .agg cs => by simp [deq, deqL_self cs]
  | .tup cs => by simp [deq, deqL_self cs]
  | .bx a b => by simp [deq]
  | .el cs o => by simp [deq, deqL_self cs]
  | .ar a b c d => by simp [deq]
  | .nilp => rfl
  | .nilm => rfl
  | .mp a => by simp [deq]
  | .fn g cs => by simp [deq, deqL_self cs]
theorem deqL_self : ∀ l : List D, deqL l l = true
  | [] => rfl
  | x :: l => by simp [deqL, deq_self x, deqL_self l]
theorem deqLL_self : ∀ l : List (List D), deqLL l l = true
  | [] => rfl
  | x :: l => by simp [deqLL, deqL_self x, deqLL_self l]
end
attribute [simp] deq_self

/-! A map whose values stand in a list of pairs, by the texts of the keys. -/
def assoc {α β : Type} [DecidableEq α] (a : α) : List (α × β) → Option β
  | [] => none
  | (k, v) :: es => if a = k then some v else assoc a es

theorem assoc_none {α β : Type} [DecidableEq α] {a : α} : ∀ {es : List (α × β)}, assoc a es = none ↔ ∀ p, p ∈ es → p.1 ≠ a
  | [] => by simp [assoc]
  | (k, v) :: es => by
    simp only [assoc]
    split
    · rename_i h
      simp only [List.mem_cons, reduceCtorEq, false_iff]
      intro q
      exact q (k, v) (Or.inl rfl) h.symm
    · rename_i h
      rw [assoc_none]
      constructor
      · intro q p hp
        rcases List.mem_cons.1 hp with hp | hp
        · subst hp; exact fun e => h e.symm
        · exact q p hp
      · exact fun q p hp => q p (List.mem_cons_of_mem _ hp)

theorem assoc_app {α β : Type} [DecidableEq α] (a : α) (fs : List (α × β)) : ∀ es : List (α × β), assoc a (es ++ fs) = match assoc a es with | some v => some v | none => assoc a fs
  | [] => rfl
  | (k, v) :: es => by
    simp only [List.cons_append, assoc]
    split
    · rfl
    · exact assoc_app a fs es

/-- The kind of key by which a map is read: ek is injective to the eyes of 'keq'. -/
def KeyE {α : Type} [DecidableEq α] (kk : KK) (ek : α → D) : Prop := ∀ a b, keq kk (ek a) (ek b) = some (decide (a = b))

theorem keyE_row : KeyE (.agg [.i, .i]) (fun r : Row => .agg (eRow r)) := fun a b => by simp only [keq]; exact seqL_row a b
theorem keyE_nd : KeyE (.agg [.i, .i, .i]) (fun r : Nd => .agg (eNd r)) := fun a b => by simp only [keq]; exact seqL_nd a b
theorem keyE_i : KeyE (.one .i) (fun r : Int => .i .i64 r) := fun a b => by
  simp only [keq, isSK, seq1, Bool.and_self, if_true]
  congr 1

section
variable {α β : Type} [DecidableEq α] {kk : KK} {ek : α → D} {ev : β → D}
def eMap (ek : α → D) (ev : β → D) (es : List (α × β)) : List (D × D) := es.map fun p => (ek p.1, ev p.2)

theorem lkD_map (h : KeyE kk ek) (a : α) : ∀ es : List (α × β), lkD kk (ek a) (eMap ek ev es) = some ((assoc a es).map ev)
  | [] => rfl
  | (k, v) :: es => by
    simp only [eMap, List.map_cons, lkD, h a k, assoc]
    by_cases e : a = k
    · simp [e]
    · simp only [e, decide_false, if_false]
      exact lkD_map h a es

theorem muD_new (h : KeyE kk ek) (a : α) (b : β) : ∀ es : List (α × β), assoc a es = none → muD kk (ek a) (ev b) (eMap ek ev es) = some (eMap ek ev (es ++ [(a, b)]))
  | [], _ => rfl
  | (k, v) :: es, q => by
    simp only [assoc] at q
    split at q
    · cases q
    · rename_i e
      have := muD_new h a b es q
      simp only [eMap] at this
      simp only [eMap, List.map_cons, muD, h a k, e, decide_false, this, List.cons_append, Option.map_some]

theorem lkD'_mp (h : KeyE kk ek) {a : α} (hk : isKey kk (ek a) = true) {S : Store} {id : Nat} {es : List (α × β)} (hS : sget S id = some (.map (eMap ek ev es))) (ok : Bool) (z : D) :
    lkD' kk ok z S (.mp id) (ek a) = some (okD ok z ((assoc a es).map ev)) := by
  simp only [lkD', hk, if_true, hS, lkD_map h, Option.map_some]

theorem muD'_new (h : KeyE kk ek) {a : α} {b : β} (hk : isKey kk (ek a) = true) {S : Store} {id : Nat} {es : List (α × β)} (hS : sget S id = some (.map (eMap ek ev es))) (ha : assoc a es = none) :
    muD' kk S (.mp id) (ek a) (ev b) = some (sset S id (.map (eMap ek ev (es ++ [(a, b)])))) := by
  simp only [muD', hk, if_true, hS, muD_new h a b es ha, Option.map_some]
end

@[simp] theorem okD_tn (z : D) : okD true z none = .tup [z, .b false] := (rfl)
@[simp] theorem okD_ts (z v : D) : okD true z (some v) = .tup [v, .b true] := (rfl)
@[simp] theorem okD_fn (z : D) : okD false z none = z := (rfl)
@[simp] theorem okD_fs (z v : D) : okD false z (some v) = v := (rfl)

end Go.Proofs.YtjlmeikcfdanmaaGreatDoor.DE.V
