/-
  SEVERAL TEXTS IN ONE (joined by tools/asm3.py of this repository): De1, De2, De22, De23, De24, De25, Na, Nb, Nc, Nd, Ne, Ga.
-/
import GoSem.Dispatch
import GoSem.Op.String
import Derived.Laws.BitsLemmas
set_option linter.unusedVariables false
set_option linter.unusedSimpArgs false
namespace Go.Proofs.YtjniafcnjbbomaaGreatDoor.DE
open Go

/-- What may be appended to: nothing; the holder of an open row; a slice without any room. -/
inductive Own where
  | ro
  | tok (t : Nat)
  | cap0

/-- A value without memory. -/
inductive D where
  | top
  | b (x : Bool)
  | i (k : IntKind) (n : Int)
  | s (l : List UInt8)
  | sl (k : Nat) (nil : Bool) (xs : List (List D)) (o : Own)
  | agg (cs : List D)
  | tup (cs : List D)
  | bx (id off : Nat)
  | el (cs : List D) (off : Nat)
  | ar (k id off n : Nat)
  | nilp
  | nilm
  | mp (id : Nat)
  | fn (g : Nat) (cs : List D)

instance : Inhabited D := ⟨.top⟩

/-- An entry of the store. -/
inductive Ent where
  | box (cs : List D)
  | tok (alive : Bool)
  | map (es : List (D × D))
  | gone

abbrev Store := List Ent

def sget {α : Type} : List α → Nat → Option α
  | [], _ => none
  | e :: S, id => if id = S.length then some e else sget S id

def sset {α : Type} : List α → Nat → α → List α
  | [], _, _ => []
  | e :: S, id, x => if id = S.length then x :: S else e :: sset S id x

def fget : List D → Nat → D
  | [], _ => .top
  | d :: _, 0 => d
  | _ :: l, n + 1 => fget l n

def fset : List D → Nat → D → List D
  | [], _, _ => []
  | _ :: l, 0, v => v :: l
  | d :: l, n + 1, v => d :: fset l n v

def fsetO (fr : List D) : Option Nat → D → List D
  | none, _ => fr
  | some t, v => fset fr t v

def fkill : List D → List Nat → List D
  | fr, [] => fr
  | fr, t :: l => fkill (fset fr t .top) l

/-- An operand: a temporary or a constant. -/
inductive A where
  | t (n : Nat)
  | c (d : D)

def av (fr : List D) : A → D
  | .t n => fget fr n
  | .c d => d

def avs (fr : List D) : List A → List D
  | [] => []
  | x :: l => av fr x :: avs fr l

/-- A value that one cell holds. -/
def isCell : D → Bool
  | .top => false
  | .agg _ => false
  | .tup _ => false
  | _ => true

def allCell : List D → Bool
  | [] => true
  | d :: l => isCell d && allCell l

theorem allCell_get : ∀ {l : List D} {j : Nat} {d : D}, allCell l = true → l[j]? = some d → isCell d = true
  | [], _, _, _, h => by simp at h
  | x :: l, 0, d, hn, h => by
    simp only [allCell, Bool.and_eq_true] at hn
    simp at h; subst h; exact hn.1
  | x :: l, j + 1, d, hn, h => by
    simp only [allCell, Bool.and_eq_true] at hn
    exact allCell_get hn.2 (by simpa using h)

def cellsK (k : Nat) (g : Bool) (d : D) : Option (List D) :=
  match g with
  | true => match d with
    | .agg cs => if cs.length = k ∧ allCell cs = true then some cs else none
    | _ => none
  | false => if isCell d then some [d] else none

/-- What k cells from o on hold. -/
def rdK (cs : List D) (o k : Nat) (g : Bool) : Option D :=
  if g then (if o + k ≤ cs.length then some (.agg ((cs.drop o).take k)) else none) else cs[o]?

def splice (cs : List D) (o : Nat) : List D → List D
  | [] => cs
  | d :: l => splice (fset cs o d) (o + 1) l

/-- The kind of the operands of a comparison or an arithmetic operation. -/
inductive SK where
  | i | b | s

/-- The kind of a key: a scalar, or a struct or an array of scalars. -/
inductive KK where
  | one (k : SK)
  | agg (ks : List SK)

inductive Q where
  | num | str | bool | agg (ks : List SK) | sl | map

/-- The operations of a region. -/
inductive R where
  | mv (x : A)
  | nilck (x : A)
  | pick (c a b : A)
  | alloc (z : List D)
  | box (k : Nat) (g : Bool) (x : A)
  | bld (z : List D) (ps : List (Nat × Nat × Bool × A))
  | bsl (k : Nat) (g : Bool) (own : Bool) (xs : List A)
  | bsa (k : Nat) (g : Bool) (xs : List A)
  | ld (k : Nat) (g : Bool) (a : A)
  | st (k : Nat) (g : Bool) (a v : A)
  | bin (op : BinOp) (q : Q) (x y : A)
  | un (op : UnOp) (x : A)
  | conv (k : IntKind) (x : A)
  | mkfn (g : Nat) (cs : List A)
  | mkmap
  | mksl (k : Nat) (arr : Bool) (z : List D) (n : A)
  | slc (k : Nat) (x : A) (lo hi : Option A)
  | slcs (x : A) (lo hi : Option A)
  | fa (o : Nat) (x : A)
  | fld (o k : Nat) (g : Bool) (x : A)
  | ia (k : Nat) (x i : A)
  | iaa (n k : Nat) (x i : A)
  | ixs (x i : A)
  | lk (kk : KK) (ok : Bool) (z : D) (m key : A)
  | mu (kk : KK) (m key v : A)
  | ment (kk : KK) (z : D) (m key : A)
  | est (m j v : A)
  | ext (x : A) (j : Nat)
  | len (str : Bool) (x : A)
  | app (k : Nat) (arr : Bool) (x y : A)
  | mx (x y : A)
  | mn (x y : A)
  | clr (k : Nat) (z : List D) (x : A)
  | call (g : Nat) (iso : Bool) (args : List A)
  | calld (f : A) (iso : Bool) (args : List A)
  | cmps (x y : A)

inductive I where
  | op (dst : Option Nat) (gd : Option (Nat × Bool)) (r : R)
  | fz (t : Nat)
  | ck (t : Nat) (r : R)

inductive C where
  | skip
  | reg (ops : List I) (kill : List Nat)
  | dreg (ops : List (Nat × I)) (kill : List Nat)
  | seq (a b : C)
  | cond (c : A) (a b : C)
  | blk (id : Nat) (c : C)
  | loop (kill : List Nat) (c : C)
  | exit (id : Nat)
  | ret
  | bad

inductive Ex where
  | normal
  | exit (id : Nat)
  | ret

inductive Res where
  | t (n : Nat)
  | cell (n k : Nat) (g : Bool)

structure Fn where
  real : Nat
  np : Nat
  nt : Nat
  res : List Res
  body : C

/-! Plain values: no address, no row. -/
mutual
def noRef : D → Bool
  | .top => true
  | .b _ => true
  | .i _ _ => true
  | .s _ => true
  | .sl _ _ xs o => (match o with | .tok _ => false | _ => true) && noRefLL xs
  | .agg cs => noRefL cs
  | .tup cs => noRefL cs
  | .bx _ _ => false
  | .el _ _ => false
  | .ar _ _ _ _ => false
  | .nilp => true
  | .nilm => true
  | .mp _ => false
  | .fn _ cs => noRefL cs
def noRefL : List D → Bool
  | [] => true
  | d :: l => noRef d && noRefL l
def noRefLL : List (List D) → Bool
  | [] => true
  | x :: l => noRefL x && noRefLL l
end

/-! Equality of values, reckoned. -/
def oeq : Own → Own → Bool
  | .ro, .ro => true
  | .tok a, .tok b => a == b
  | .cap0, .cap0 => true
  | _, _ => false
mutual
def deq : D → D → Bool
  | .top, .top => true
  | .b x, .b y => x == y
  | .i k x, .i l y => decide (k = l) && x == y
  | .s x, .s y => x == y
  | .sl k n xs o, .sl l m ys p => k == l && n == m && oeq o p && deqLL xs ys
  | .agg x, .agg y => deqL x y
  | .tup x, .tup y => deqL x y
  | .bx a b, .bx c d => a == c && b == d
  | .el x a, .el y b => a == b && deqL x y
  | .ar a b c d, .ar e f g h => a == e && b == f && c == g && d == h
  | .nilp, .nilp => true
  | .nilm, .nilm => true
  | .mp a, .mp b => a == b
  | .fn a x, .fn b y => a == b && deqL x y
  | _, _ => false
def deqL : List D → List D → Bool
  | [], [] => true
  | x :: l, y :: m => deq x y && deqL l m
  | _, _ => false
def deqLL : List (List D) → List (List D) → Bool
  | [], [] => true
  | x :: l, y :: m => deqL x y && deqLL l m
  | _, _ => false
end

def strip1 : D → D
  | .sl k n xs _ => .sl k n xs .ro
  | d => d

def strip1L : List D → List D
  | [] => []
  | d :: l => strip1 d :: strip1L l

/-- Without the right to append: a slice, and the slices in the cells of a struct. -/
def strip : D → D
  | .sl k n xs _ => .sl k n xs .ro
  | .agg cs => .agg (strip1L cs)
  | d => d

def stripL : List D → List D
  | [] => []
  | d :: l => strip d :: stripL l

def stripT : D → D
  | .tup cs => .tup (stripL cs)
  | d => strip d

/-- Equality of plain scalars and of lists of them. -/
def seq1 : D → D → Option Bool
  | .b x, .b y => some (x == y)
  | .i k x, .i k' y => if k = k' then some (x == y) else none
  | .s x, .s y => some (x == y)
  | _, _ => none

def isSK : SK → D → Bool
  | .i, .i _ _ => true
  | .b, .b _ => true
  | .s, .s _ => true
  | _, _ => false

def seqL : List SK → List D → List D → Option Bool
  | [], [], [] => some true
  | k :: ks, x :: l, y :: m => if isSK k x && isSK k y then (match seq1 x y, seqL ks l m with
    | some p, some q => some (p && q)
    | _, _ => none) else none
  | _, _, _ => none

def keq : KK → D → D → Option Bool
  | .agg ks, .agg xs, .agg ys => seqL ks xs ys
  | .one k, x, y => if isSK k x && isSK k y then seq1 x y else none
  | _, _, _ => none

def isSKL : List SK → List D → Bool
  | [], [] => true
  | k :: ks, x :: l => isSK k x && isSKL ks l
  | _, _ => false

/-- A key of this kind. -/
def isKey : KK → D → Bool
  | .agg ks, .agg xs => isSKL ks xs
  | .one k, x => isSK k x
  | _, _ => false

def intOp (op : BinOp) (k : IntKind) (x y : Int) : Option D :=
  match op with
  | .add => some (.i k (k.wrap (x + y)))
  | .sub => some (.i k (k.wrap (x - y)))
  | .mul => some (.i k (k.wrap (x * y)))
  | .quo => if y = 0 then none else some (.i k (k.wrap (x.tdiv y)))
  | .rem => if y = 0 then none else some (.i k (x.tmod y))
  | .and => some (.i k (k.wrap (BitVec.ofInt k.bits x &&& BitVec.ofInt k.bits y).toNat))
  | .or => some (.i k (k.wrap (BitVec.ofInt k.bits x ||| BitVec.ofInt k.bits y).toNat))
  | .xor => some (.i k (k.wrap (BitVec.ofInt k.bits x ^^^ BitVec.ofInt k.bits y).toNat))
  | .eql => some (.b (x == y))
  | .neq => some (.b (x != y))
  | .lss => some (.b (decide (x < y)))
  | .leq => some (.b (decide (x ≤ y)))
  | .gtr => some (.b (decide (x > y)))
  | .geq => some (.b (decide (x ≥ y)))
  | _ => none

def shOp (op : BinOp) (k : IntKind) (x y : Int) : Option D :=
  if y < 0 then none else
  match op with
  | .shl => some (.i k (k.wrap (x * 2 ^ (min y.toNat k.bits))))
  | .shr => some (.i k (x.fdiv (2 ^ (min y.toNat k.bits))))
  | _ => none

def eqD (op : BinOp) (r : Option Bool) : Option D :=
  match op, r with
  | .eql, some r => some (.b r)
  | .neq, some r => some (.b (!r))
  | _, _ => none

def binD (op : BinOp) (q : Q) (x y : D) : Option D :=
  match q, x, y with
  | .num, .i k a, .i k' b =>
    match op with
    | .shl => shOp .shl k a b
    | .shr => shOp .shr k a b
    | op => if k = k' then intOp op k a b else none
  | .str, .s a, .s b =>
    match op with
    | .add => if a.length + b.length ≤ 1048576 then some (.s (a ++ b)) else none
    | .eql => some (.b (a == b))
    | .neq => some (.b (!(a == b)))
    | .lss => some (.b (Op.bytesLess a b))
    | _ => none
  | .bool, .b a, .b b => eqD op (some (a == b))
  | .agg ks, .agg a, .agg b => eqD op (seqL ks a b)
  | .sl, .sl _ n _ _, .sl _ true _ _ => eqD op (some n)
  | .map, .nilm, .nilm => eqD op (some true)
  | .map, .mp _, .nilm => eqD op (some false)
  | _, _, _ => none

def unD (op : UnOp) (x : D) : Option D :=
  match op, x with
  | .not, .b x => some (.b (!x))
  | .neg, .i k n => some (.i k (k.wrap (0 - n)))
  | .xor, .i k n => intOp .xor k (if k.signed then -1 else k.max) n
  | _, _ => none

def maxLenD : Nat := 1048576

def chunks (k : Nat) : Nat → List D → List (List D)
  | 0, _ => []
  | n + 1, cs => cs.take k :: chunks k n (cs.drop k)

def intOf : D → Option Int
  | .i _ n => some n
  | _ => none

/-- The bounds of a slice expression; 'top' the length. -/
def bounds (n : Nat) (lo hi : Option D) : Option (Nat × Nat) :=
  match hi with
  | none => match lo with
    | none => some (0, n)
    | some (.i _ l) => if 0 ≤ l ∧ l ≤ n then some (l.toNat, n) else none
    | _ => none
  | some (.i _ h) => if 0 ≤ h ∧ h ≤ n then (match lo with
    | none => some (0, h.toNat)
    | some (.i _ l) => if 0 ≤ l ∧ l ≤ h then some (l.toNat, h.toNat) else none
    | _ => none) else none
  | _ => none

def lkD (kk : KK) (key : D) : List (D × D) → Option (Option D)
  | [] => some none
  | (k, v) :: es => match keq kk key k with
    | some true => some (some v)
    | some false => lkD kk key es
    | none => none

def muD (kk : KK) (key v : D) : List (D × D) → Option (List (D × D))
  | [] => some [(key, v)]
  | (k, u) :: es => match keq kk key k with
    | some true => some ((key, v) :: es)
    | some false => (muD kk key v es).map ((k, u) :: ·)
    | none => none

def posD (kk : KK) (key : D) : List (D × D) → Nat → Option (Option Nat)
  | [], _ => some none
  | (k, _) :: es, j => match keq kk key k with
    | some true => some (some j)
    | some false => posD kk key es (j + 1)
    | none => none

def putD (key : D) : Nat → List (D × D) → List (D × D)
  | _, [] => []
  | 0, (_, v) :: es => (key, v) :: es
  | j + 1, e :: es => e :: putD key j es

def valD (v : D) : Nat → List (D × D) → List (D × D)
  | _, [] => []
  | 0, (k, _) :: es => (k, v) :: es
  | j + 1, e :: es => e :: valD v j es

/-- The parts of a struct literal laid into the zero value. -/
def bldD (fr : List D) (z : List D) : List (Nat × Nat × Bool × A) → Option (List D)
  | [] => some z
  | (o, k, g, x) :: ps => match cellsK k g (av fr x) with
    | some cs => if o + k ≤ z.length then bldD fr (splice z o cs) ps else none
    | none => none

def cellsAll (fr : List D) (k : Nat) (g : Bool) : List A → Option (List (List D))
  | [] => some []
  | x :: l => match cellsK k g (av fr x), cellsAll fr k g l with
    | some cs, some r => some (cs :: r)
    | _, _ => none

abbrev CallF := Nat → List D → Store → Option (D × Store)

/-- A call of its own store: plain arguments, a plain result. -/
def isoCall (call : CallF) (g : Nat) (args : List D) : Option D :=
  if noRefL (stripL args) then
    match call g (stripL args) [] with
    | some (r, _) => if noRef (stripT r) then some (stripT r) else none
    | none => none
  else none

def callR (call : CallF) (g : Nat) (iso : Bool) (args : List D) (S : Store) : Option (D × Store) :=
  if iso then (isoCall call g args).map fun r => (r, S) else call g args S

/-- Appending to an array of the store: it moves to a new entry. -/
def appA (k id n : Nat) (ys : List (List D)) (S : Store) : Option (D × Store) :=
  match sget S id with
  | some (.box cs) => if n * k ≤ cs.length then some (.ar k S.length 0 (n + ys.length), .box (cs.take (n * k) ++ ys.flatten) :: sset S id .gone) else none
  | _ => none

def appD (k : Nat) (arr : Bool) (x y : D) (S : Store) : Option (D × Store) :=
  match x, y with
  | .ar k1 id o n, .sl k2 _ ys _ => if k1 = k ∧ (k2 = k ∨ ys = []) ∧ n + ys.length ≤ maxLenD ∧ o = 0 then appA k id n ys S else none
  | .sl k1 nil xs o, .sl k2 _ ys _ =>
    if k1 = k ∧ (k2 = k ∨ ys = []) ∧ xs.length + ys.length ≤ maxLenD then
      match o with
      | .tok t => match sget S t with
        | some (.tok true) => if arr || nil then none else some (.sl k false (xs ++ ys) (.tok S.length), .tok true :: sset S t (.tok false))
        | _ => none
      | o =>
        if (match o with | .cap0 => true | _ => nil) then
          (if ys.isEmpty then some (x, S)
          else if arr then some (.ar k S.length 0 ys.length, .box ys.flatten :: S)
          else some (.sl k false ys (.tok S.length), .tok true :: S))
        else none
    else none
  | _, _ => none

def ldD (S : Store) (k : Nat) (g : Bool) : D → Option D
  | .bx id o => match sget S id with
    | some (.box cs) => rdK cs o k g
    | _ => none
  | .el cs o => rdK cs o k g
  | _ => none

def stD (S : Store) (k : Nat) (g : Bool) (a v : D) : Option Store :=
  match a with
  | .bx id o => match sget S id with
    | some (.box cs) => match cellsK k g v with
      | some l => if o + k ≤ cs.length then some (sset S id (.box (splice cs o l))) else none
      | none => none
    | _ => none
  | _ => none

def iaD (k : Nat) (x i : D) : Option D :=
  match x, i with
  | .sl k' _ xs _, .i _ n => if 0 ≤ n ∧ k' = k then (xs[n.toNat]?).map fun cs => .el cs 0 else none
  | .ar k' id o m, .i _ n => if 0 ≤ n ∧ n < m ∧ k' = k then some (.bx id (o + n.toNat * k)) else none
  | _, _ => none

def slcD (k : Nat) (x : D) (lo hi : Option D) : Option D :=
  match x with
  | .sl k' nil xs _ =>
    if k' = k then (match bounds xs.length lo hi with
      | some (l, h) => some (.sl k nil ((xs.drop l).take (h - l)) .ro)
      | none => none) else none
  | .ar k' id o n =>
    if k' = k then (match bounds n lo hi with
      | some (l, h) => if h = l then some (.sl k false [] .ro) else some (.ar k id (o + l * k) (h - l))
      | none => none) else none
  | _ => none

def slcsD (x : D) (lo hi : Option D) : Option D :=
  match x with
  | .s l => match bounds l.length lo hi with
      | some (p, q) => some (.s ((l.drop p).take (q - p)))
      | none => none
  | _ => none

def avo (fr : List D) : Option A → Option D
  | none => none
  | some x => some (av fr x)

def evR (call : CallF) (fr : List D) (S : Store) : R → Option (D × Store)
  | .mv x => some (av fr x, S)
  | .nilck x => match av fr x with
    | .bx i o => some (.bx i o, S)
    | .el c o => some (.el c o, S)
    | .fn g c => some (.fn g c, S)
    | _ => none
  | .pick c a b => match av fr c with
    | .b x => some (if x then av fr a else av fr b, S)
    | _ => none
  | .alloc z => some (.bx S.length 0, .box z :: S)
  | .box k g x => (cellsK k g (av fr x)).map fun cs => (.bx S.length 0, .box cs :: S)
  | .bld z ps => (bldD fr z ps).map fun cs => (.agg cs, S)
  | .bsl k g own xs => (cellsAll fr k g xs).map fun l =>
      if own then (if l.isEmpty then (.sl k false [] .cap0, S) else (.sl k false l (.tok S.length), .tok true :: S)) else (.sl k false l .ro, S)
  | .bsa k g xs => (cellsAll fr k g xs).map fun l => (.ar k S.length 0 l.length, .box l.flatten :: S)
  | .ld k g a => (ldD S k g (av fr a)).map fun d => (d, S)
  | .st k g a v => (stD S k g (av fr a) (av fr v)).map fun S' => (.tup [], S')
  | .bin op q x y => (binD op q (av fr x) (av fr y)).map fun d => (d, S)
  | .un op x => (unD op (av fr x)).map fun d => (d, S)
  | .conv k x => match av fr x with
    | .i _ n => some (.i k (k.wrap n), S)
    | _ => none
  | .mkfn g cs => some (.fn g (avs fr cs), S)
  | .mkmap => some (.mp S.length, .map [] :: S)
  | .mksl k arr z n => match av fr n with
    | .i _ m => if 0 ≤ m ∧ m ≤ maxLenD then
        (if arr then some (.ar k S.length 0 m.toNat, .box (List.replicate m.toNat z).flatten :: S)
        else (if m = 0 then some (.sl k false [] .cap0, S) else some (.sl k false (List.replicate m.toNat z) (.tok S.length), .tok true :: S))) else none
    | _ => none
  | .slc k x lo hi => (slcD k (av fr x) (avo fr lo) (avo fr hi)).map fun d => (d, S)
  | .slcs x lo hi => (slcsD (av fr x) (avo fr lo) (avo fr hi)).map fun d => (d, S)
  | .fa o x => match av fr x with
    | .bx id p => some (.bx id (p + o), S)
    | .el cs p => some (.el cs (p + o), S)
    | _ => none
  | .fld o k g x => match av fr x with
    | .agg cs => (rdK cs o k g).map fun d => (d, S)
    | _ => none
  | .ia k x i => (iaD k (av fr x) (av fr i)).map fun d => (d, S)
  | .iaa n k x i => match av fr x, av fr i with
    | .bx id o, .i _ m => if 0 ≤ m ∧ m < n then some (.bx id (o + m.toNat * k), S) else none
    | _, _ => none
  | .ixs x i => match av fr x, av fr i with
    | .s l, .i _ m => if 0 ≤ m then (l[m.toNat]?).map fun c => (.i .u8 c.toNat, S) else none
    | _, _ => none
  | .lk kk ok z m key => if isKey kk (av fr key) then
      (match av fr m with
      | .nilm => some (if ok then .tup [z, .b false] else z, S)
      | .mp id => match sget S id with
        | some (.map es) => match lkD kk (av fr key) es with
          | some (some v) => some (if ok then .tup [v, .b true] else v, S)
          | some none => some (if ok then .tup [z, .b false] else z, S)
          | none => none
        | _ => none
      | _ => none) else none
  | .mu kk m key v => if isKey kk (av fr key) then
      (match av fr m with
      | .mp id => match sget S id with
        | some (.map es) => (muD kk (av fr key) (av fr v) es).map fun es' => (.tup [], sset S id (.map es'))
        | _ => none
      | _ => none) else none
  | .ment kk z m key => if isKey kk (av fr key) then
      (match av fr m with
      | .mp id => match sget S id with
        | some (.map es) => match posD kk (av fr key) es 0 with
          | some (some j) => match es[j]? with
            | some e => some (.tup [e.2, .i .i64 j], sset S id (.map (putD (av fr key) j es)))
            | none => none
          | some none => some (.tup [z, .i .i64 es.length], sset S id (.map (es ++ [(av fr key, z)])))
          | none => none
        | _ => none
      | _ => none) else none
  | .est m j v => match av fr m, av fr j with
    | .mp id, .i _ n => match sget S id with
      | some (.map es) => if 0 ≤ n ∧ n < es.length then some (.tup [], sset S id (.map (valD (av fr v) n.toNat es))) else none
      | _ => none
    | _, _ => none
  | .ext x j => match av fr x with
    | .tup cs => (cs[j]?).map fun d => (d, S)
    | _ => none
  | .len str x => match str, av fr x with
    | false, .sl _ _ xs _ => some (.i .i64 xs.length, S)
    | false, .ar _ _ _ n => some (.i .i64 n, S)
    | true, .s l => some (.i .i64 l.length, S)
    | _, _ => none
  | .app k arr x y => appD k arr (av fr x) (av fr y) S
  | .mx x y => match av fr x, av fr y with
    | .i k a, .i k' b => if k = k' then some (.i k (if b > a then b else a), S) else none
    | _, _ => none
  | .mn x y => match av fr x, av fr y with
    | .i k a, .i k' b => if k = k' then some (.i k (if b < a then b else a), S) else none
    | _, _ => none
  | .clr k z x => match av fr x with
    | .ar k' id o n => if k' = k ∧ z.length = k then (match sget S id with
      | some (.box cs) => if o + n * k ≤ cs.length then some (.tup [], sset S id (.box (splice cs o (List.replicate n z).flatten))) else none
      | _ => none) else none
    | .sl _ _ [] _ => some (.tup [], S)
    | _ => none
  | .call g iso args => callR call g iso (avs fr args) S
  | .calld f iso args => match av fr f with
    | .fn g cs => callR call g iso (avs fr args ++ cs) S
    | _ => none
  | .cmps x y => match av fr x, av fr y with
    | .s a, .s b => some (.i .i64 (if Op.bytesLess a b then -1 else if a == b then 0 else 1), S)
    | _, _ => none

/-- Is the operation carried out? -/
def wanted (fr : List D) : Option (Nat × Bool) → Option Bool
  | none => some true
  | some (t, w) => match fget fr t with
    | .b x => some (x == w)
    | .tup [] => some false
    | _ => none

def fzD (d : D) (S : Store) : Option (D × Store) :=
  match d with
  | .ar k id o n => match sget S id with
    | some (.box cs) => if o + n * k ≤ cs.length then some (.sl k false (chunks k n (cs.drop o)) .ro, sset S id .gone) else none
    | _ => none
  | .sl k nil xs _ => some (.sl k nil xs .ro, S)
  | _ => none

def evI (call : CallF) (fr : List D) (S : Store) : I → Option (List D × Store)
  | .op dst gd r => match wanted fr gd with
    | some true => (evR call fr S r).map fun (d, S') => (fsetO fr dst d, S')
    | some false => some (fsetO fr dst (.tup []), S)
    | none => none
  | .fz t => (fzD (fget fr t) S).map fun (d, S') => (fset fr t d, S')
  | .ck t r => match evR call fr S r with
    | some (d, _) => if deq d (fget fr t) then some (fr, S) else none
    | none => none

def evIs (call : CallF) : List D → Store → List I → Option (List D × Store)
  | fr, S, [] => some (fr, S)
  | fr, S, o :: os => match evI call fr S o with
    | some (fr', S') => evIs call fr' S' os
    | none => none

abbrev Out := Ex × List D × Store

def snds : List (Nat × I) → List I
  | [] => []
  | (_, o) :: l => o :: snds l

def iter (f : List D → Store → Option Out) : Nat → List D → Store → Option Out
  | 0, _, _ => none
  | n + 1, fr, S => match f fr S with
    | some (.normal, fr', S') => iter f n fr' S'
    | r => r

/-- The code, with a bound on the rounds of each loop. -/
def exec (call : CallF) (n : Nat) : C → List D → Store → Option Out
  | .skip, fr, S => some (.normal, fr, S)
  | .reg ops kill, fr, S => match evIs call fr S ops with
    | some (fr', S') => some (.normal, fkill fr' kill, S')
    | none => none
  | .dreg ops kill, fr, S => match evIs call fr S (snds ops) with
    | some (fr', S') => some (.normal, fkill fr' kill, S')
    | none => none
  | .seq a b, fr, S => match exec call n a fr S with
    | some (.normal, fr', S') => exec call n b fr' S'
    | r => r
  | .cond c a b, fr, S => match av fr c with
    | .b true => exec call n a fr S
    | .b false => exec call n b fr S
    | _ => none
  | .blk id c, fr, S => match exec call n c fr S with
    | some (.exit j, fr', S') => some (if j = id then .normal else .exit j, fr', S')
    | r => r
  | .loop kl c, fr, S => iter (fun fr S => exec call n c (fkill fr kl) S) n fr S
  | .exit id, fr, S => some (.exit id, fr, S)
  | .ret, fr, S => some (.ret, fr, S)
  | .bad, _, _ => none

def res1 (fr : List D) (S : Store) : Res → Option D
  | .t n => some (fget fr n)
  | .cell n k g => match fget fr n with
    | .bx id o => ldD S k g (.bx id o)
    | _ => none

def resL (fr : List D) (S : Store) : List Res → Option (List D)
  | [] => some []
  | r :: l => match res1 fr S r, resL fr S l with
    | some d, some m => some (d :: m)
    | _, _ => none

def resD : List D → D
  | [d] => d
  | l => .tup l

def finish (f : Fn) : Option Out → Option (D × Store)
  | some (.normal, fr, S) => (resL fr S f.res).map fun l => (resD l, S)
  | some (.ret, fr, S) => (resL fr S f.res).map fun l => (resD l, S)
  | _ => none

def frame0 (f : Fn) (args : List D) : List D := args ++ List.replicate (f.nt - f.np) .top

def textsD : List (List D) → Option (List (List UInt8))
  | [] => some []
  | [.s a] :: l => (textsD l).map (a :: ·)
  | _ => none

/-- Functions that are known as a whole: 1001: strings.Join; 2000 + k: slices.Grow of a nil slice whose elements have k cells. -/
def primD (f : Fn) (args : List D) (S : Store) : Option (D × Store) :=
  if f.np = 1001 then (match args with
    | [.sl 1 _ xs _, .s sep] => match textsD xs with
      | some l => if (sep.intercalate l).length ≤ 1048576 ∧ l.length ≤ 1048576 then some (.s (sep.intercalate l), S) else none
      | none => none
    | _ => none)
  else if 2000 ≤ f.np then (match args with
    | [.sl k true [] _, .i .i64 n] => if k = f.np - 2000 then (if 0 < n ∧ n ≤ 1048576 then some (.sl k false [] (.tok S.length), .tok true :: S) else if n = 0 then some (.sl k true [] .ro, S) else none) else none
    | _ => none)
  else none

def callN (dp : Nat → Option Fn) : Nat → CallF
  | 0, _, _, _ => none
  | n + 1, g, args, S => match dp g with
    | some f => if args.length = f.np ∧ f.np ≤ f.nt then finish f (exec (callN dp n) n f.body (frame0 f args) S) else primD f args S
    | none => none

end Go.Proofs.YtjniafcnjbbomaaGreatDoor.DE

namespace Go.Proofs.YtjniafcnjbbomaaGreatDoor.DE
open Go

def LeO {α : Type} (x y : Option α) : Prop := ∀ r, x = some r → y = some r

theorem LeO.refl {α : Type} (x : Option α) : LeO x x := fun _ h => h
theorem LeO.trans {α : Type} {x y z : Option α} (h : LeO x y) (k : LeO y z) : LeO x z := fun r e => k r (h r e)
theorem LeO.map {α β : Type} {x y : Option α} (h : LeO x y) (f : α → β) : LeO (x.map f) (y.map f) := by
  intro r e
  cases hx : x with
  | none => simp [hx] at e
  | some a => rw [h a hx]; rw [hx] at e; exact e

def LeC (c d : CallF) : Prop := ∀ g a S, LeO (c g a S) (d g a S)

theorem isoCall_mono {c d : CallF} (h : LeC c d) (g : Nat) (args : List D) : LeO (isoCall c g args) (isoCall d g args) := by
  intro r e
  unfold isoCall at *
  split at e
  · rename_i hn
    rw [if_pos hn]
    cases hc : c g (stripL args) [] with
    | none => simp [hc] at e
    | some p => rw [h _ _ _ p hc]; rw [hc] at e; exact e
  · cases e

theorem callR_mono {c d : CallF} (h : LeC c d) (g : Nat) (iso : Bool) (args : List D) (S : Store) : LeO (callR c g iso args S) (callR d g iso args S) := by
  unfold callR
  cases iso with
  | true => exact (isoCall_mono h g args).map _
  | false => exact h _ _ _

theorem evR_mono {c d : CallF} (h : LeC c d) (fr : List D) (S : Store) (r : R) : LeO (evR c fr S r) (evR d fr S r) := by
  cases r with
  | call g iso args => exact callR_mono h _ _ _ _
  | calld f iso args =>
    intro x e
    simp only [evR] at *
    split at e
    · exact callR_mono h _ _ _ _ _ e
    · cases e
  | _ => exact LeO.refl _

theorem evI_mono {c d : CallF} (h : LeC c d) (fr : List D) (S : Store) (o : I) : LeO (evI c fr S o) (evI d fr S o) := by
  cases o with
  | op dst gd r =>
    intro x e
    simp only [evI] at *
    split at e
    · exact (evR_mono h fr S r).map _ _ e
    · exact e
    · cases e
  | fz t => exact LeO.refl _
  | ck t r =>
    intro x e
    simp only [evI] at *
    cases hr : evR c fr S r with
    | none => simp [hr] at e
    | some p => rw [evR_mono h fr S r p hr]; rw [hr] at e; exact e

theorem evIs_mono {c d : CallF} (h : LeC c d) : ∀ (os : List I) (fr : List D) (S : Store), LeO (evIs c fr S os) (evIs d fr S os)
  | [], _, _ => LeO.refl _
  | o :: os, fr, S => by
    intro x e
    simp only [evIs] at *
    cases hi : evI c fr S o with
    | none => simp [hi] at e
    | some p =>
      rw [evI_mono h fr S o p hi]
      rw [hi] at e
      exact evIs_mono h os _ _ _ e

theorem iter_mono {f g : List D → Store → Option Out} (h : ∀ fr S, LeO (f fr S) (g fr S)) : ∀ (n m : Nat), n ≤ m → ∀ fr S, LeO (iter f n fr S) (iter g m fr S)
  | 0, _, _, _, _ => fun _ e => by cases e
  | n + 1, 0, hm, _, _ => absurd hm (by omega)
  | n + 1, m + 1, hm, fr, S => by
    intro x e
    simp only [iter] at *
    cases hf : f fr S with
    | none => simp [hf] at e
    | some p =>
      rw [h fr S p hf]
      rw [hf] at e
      obtain ⟨ex, fr', S'⟩ := p
      cases ex with
      | normal => exact iter_mono h n m (by omega) _ _ _ e
      | exit _ => exact e
      | ret => exact e

theorem exec_mono {c d : CallF} (h : LeC c d) {n m : Nat} (hm : n ≤ m) : ∀ (co : C) (fr : List D) (S : Store), LeO (exec c n co fr S) (exec d m co fr S)
  | .skip, _, _ => LeO.refl _
  | .reg ops kill, fr, S => by
    intro x e
    simp only [exec] at *
    cases hi : evIs c fr S ops with
    | none => simp [hi] at e
    | some p => rw [evIs_mono h ops fr S p hi]; rw [hi] at e; exact e
  | .dreg ops kill, fr, S => by
    intro x e
    simp only [exec] at *
    cases hi : evIs c fr S (snds ops) with
    | none => simp [hi] at e
    | some p => rw [evIs_mono h (snds ops) fr S p hi]; rw [hi] at e; exact e
  | .seq a b, fr, S => by
    intro x e
    simp only [exec] at *
    cases ha : exec c n a fr S with
    | none => simp [ha] at e
    | some p =>
      rw [exec_mono h hm a fr S p ha]
      rw [ha] at e
      obtain ⟨ex, fr', S'⟩ := p
      cases ex with
      | normal => exact exec_mono h hm b _ _ _ e
      | exit _ => exact e
      | ret => exact e
  | .cond q a b, fr, S => by
    intro x e
    simp only [exec] at *
    cases hq : av fr q with
    | b y =>
      rw [hq] at e
      cases y with
      | true => exact exec_mono h hm a _ _ _ e
      | false => exact exec_mono h hm b _ _ _ e
    | _ => simp [hq] at e
  | .blk id a, fr, S => by
    intro x e
    simp only [exec] at *
    cases ha : exec c n a fr S with
    | none => simp [ha] at e
    | some p => rw [exec_mono h hm a fr S p ha]; rw [ha] at e; exact e
  | .loop kl a, fr, S => iter_mono (fun fr S => exec_mono h hm a (fkill fr kl) S) n m hm fr S
  | .exit _, _, _ => LeO.refl _
  | .ret, _, _ => LeO.refl _
  | .bad, _, _ => LeO.refl _

theorem finish_mono (f : Fn) {x y : Option Out} (h : LeO x y) : LeO (finish f x) (finish f y) := by
  intro r e
  cases hx : x with
  | none => simp [hx, finish] at e
  | some p => rw [h p hx]; rw [hx] at e; exact e

theorem callN_step (dp : Nat → Option Fn) : ∀ n, LeC (callN dp n) (callN dp (n + 1))
  | 0 => fun _ _ _ _ e => by cases e
  | n + 1 => by
    intro g a S r e
    simp only [callN] at e ⊢
    cases hg : dp g with
    | none => simp [hg] at e
    | some f =>
      simp only [hg] at e ⊢
      split at e
      · rename_i hn
        rw [if_pos hn]
        exact finish_mono f (exec_mono (callN_step dp n) (Nat.le_succ n) f.body _ _) _ e
      · rename_i hn
        rw [if_neg hn]
        exact e

theorem callN_mono (dp : Nat → Option Fn) (n : Nat) : ∀ m, n ≤ m → LeC (callN dp n) (callN dp m) := by
  intro m hm
  induction m with
  | zero => have : n = 0 := by omega
            subst this; exact fun _ _ _ => LeO.refl _
  | succ m ih =>
    rcases Nat.lt_or_ge n (m + 1) with h | h
    · exact fun g a S => (ih (by omega) g a S).trans (callN_step dp m g a S)
    · have : n = m + 1 := by omega
      subst this; exact fun _ _ _ => LeO.refl _

open Classical in
noncomputable def lim {α : Type} (f : Nat → Option α) : Option α := if h : ∃ r, ∃ n, f n = some r then some (Classical.choose h) else none

theorem lim_iff {α : Type} {f : Nat → Option α} (hf : ∀ n m, n ≤ m → LeO (f n) (f m)) (r : α) : lim f = some r ↔ ∃ n, f n = some r := by
  unfold lim
  constructor
  · intro h
    split at h
    · rename_i hx
      injection h with h
      exact h ▸ Classical.choose_spec hx
    · cases h
  · rintro ⟨n, hn⟩
    have hx : ∃ r, ∃ n, f n = some r := ⟨r, n, hn⟩
    rw [dif_pos hx]
    obtain ⟨m, hm⟩ := Classical.choose_spec hx
    have h1 := hf n (max n m) (Nat.le_max_left _ _) r hn
    have h2 := hf m (max n m) (Nat.le_max_right _ _) _ hm
    rw [h1] at h2
    exact h2.symm

noncomputable def call (dp : Nat → Option Fn) : CallF := fun g a S => lim fun n => callN dp n g a S

noncomputable def execL (call : CallF) : C → List D → Store → Option Out
  | .skip, fr, S => some (.normal, fr, S)
  | .reg ops kill, fr, S => match evIs call fr S ops with
    | some (fr', S') => some (.normal, fkill fr' kill, S')
    | none => none
  | .dreg ops kill, fr, S => match evIs call fr S (snds ops) with
    | some (fr', S') => some (.normal, fkill fr' kill, S')
    | none => none
  | .seq a b, fr, S => match execL call a fr S with
    | some (.normal, fr', S') => execL call b fr' S'
    | r => r
  | .cond c a b, fr, S => match av fr c with
    | .b true => execL call a fr S
    | .b false => execL call b fr S
    | _ => none
  | .blk id c, fr, S => match execL call c fr S with
    | some (.exit j, fr', S') => some (if j = id then .normal else .exit j, fr', S')
    | r => r
  | .loop kl c, fr, S => lim fun n => iter (fun fr S => execL call c (fkill fr kl) S) n fr S
  | .exit id, fr, S => some (.exit id, fr, S)
  | .ret, fr, S => some (.ret, fr, S)
  | .bad, _, _ => none

section
variable {dp : Nat → Option Fn}

theorem call_iff (g : Nat) (a : List D) (S : Store) (r : D × Store) : call dp g a S = some r ↔ ∃ n, callN dp n g a S = some r :=
  lim_iff (fun n m h => callN_mono dp n m h g a S) r

theorem callN_call (n : Nat) : LeC (callN dp n) (call dp) := fun g a S r h => (call_iff g a S r).2 ⟨n, h⟩

theorem isoCall_ex {g : Nat} {a : List D} {r : D} (h : isoCall (call dp) g a = some r) : ∃ n, isoCall (callN dp n) g a = some r := by
  unfold isoCall at h
  split at h
  · rename_i hn
    cases hc : call dp g (stripL a) [] with
    | none => simp [hc] at h
    | some p =>
      obtain ⟨n, e⟩ := (call_iff _ _ _ _).1 hc
      refine ⟨n, ?_⟩
      unfold isoCall
      rw [if_pos hn, e]
      rw [hc] at h
      exact h
  · cases h

theorem callR_ex {g : Nat} {iso : Bool} {a : List D} {S : Store} {r : D × Store} (h : callR (call dp) g iso a S = some r) : ∃ n, callR (callN dp n) g iso a S = some r := by
  unfold callR at *
  cases iso with
  | true =>
    simp only [if_true] at h ⊢
    cases hc : isoCall (call dp) g a with
    | none => simp [hc] at h
    | some p =>
      obtain ⟨n, e⟩ := isoCall_ex hc
      exact ⟨n, by rw [e]; rw [hc] at h; exact h⟩
  | false => simpa using (call_iff _ _ _ _).1 (by simpa using h)

theorem evR_ex {fr : List D} {S : Store} {o : R} {r : D × Store} (h : evR (call dp) fr S o = some r) : ∃ n, evR (callN dp n) fr S o = some r := by
  cases o with
  | call g iso args => exact callR_ex h
  | calld f iso args =>
    simp only [evR] at *
    split at h
    · obtain ⟨n, e⟩ := callR_ex h
      exact ⟨n, e⟩
    · cases h
  | _ => exact ⟨0, h⟩

theorem evI_ex {fr : List D} {S : Store} {o : I} {r : List D × Store} (h : evI (call dp) fr S o = some r) : ∃ n, evI (callN dp n) fr S o = some r := by
  cases o with
  | op dst gd o =>
    simp only [evI] at *
    split at h
    · cases hc : evR (call dp) fr S o with
      | none => simp [hc] at h
      | some p =>
        obtain ⟨n, e⟩ := evR_ex hc
        exact ⟨n, by rw [e]; rw [hc] at h; exact h⟩
    · exact ⟨0, h⟩
    · cases h
  | fz t => exact ⟨0, h⟩
  | ck t o =>
    simp only [evI] at *
    cases hc : evR (call dp) fr S o with
    | none => simp [hc] at h
    | some p =>
      obtain ⟨n, e⟩ := evR_ex hc
      exact ⟨n, by rw [e]; rw [hc] at h; exact h⟩

theorem evIs_ex : ∀ {os : List I} {fr : List D} {S : Store} {r : List D × Store}, evIs (call dp) fr S os = some r → ∃ n, evIs (callN dp n) fr S os = some r
  | [], _, _, _, h => ⟨0, h⟩
  | o :: os, fr, S, r, h => by
    simp only [evIs] at *
    cases hi : evI (call dp) fr S o with
    | none => simp [hi] at h
    | some p =>
      rw [hi] at h
      obtain ⟨n, e⟩ := evI_ex hi
      obtain ⟨m, e'⟩ := evIs_ex h
      refine ⟨max n m, ?_⟩
      rw [evI_mono (callN_mono dp n (max n m) (Nat.le_max_left _ _)) _ _ _ _ e]
      exact evIs_mono (callN_mono dp m (max n m) (Nat.le_max_right _ _)) _ _ _ _ e'

theorem iter_ex {f : Nat → List D → Store → Option Out} {g : List D → Store → Option Out} (hf : ∀ n m, n ≤ m → ∀ fr S, LeO (f n fr S) (f m fr S))
    (h : ∀ fr S r, g fr S = some r → ∃ n, f n fr S = some r) : ∀ (k : Nat) (fr : List D) (S : Store) (r : Out), iter g k fr S = some r → ∃ n, iter (f n) k fr S = some r
  | 0, _, _, _, e => by cases e
  | k + 1, fr, S, r, e => by
    simp only [iter] at *
    cases hg : g fr S with
    | none => simp [hg] at e
    | some p =>
      rw [hg] at e
      obtain ⟨n, hn⟩ := h _ _ _ hg
      obtain ⟨ex, fr', S'⟩ := p
      cases ex with
      | normal =>
        obtain ⟨m, hm⟩ := iter_ex hf h k _ _ _ e
        refine ⟨max n m, ?_⟩
        rw [hf n (max n m) (Nat.le_max_left _ _) _ _ _ hn]
        exact iter_mono (hf m (max n m) (Nat.le_max_right _ _)) k k (Nat.le_refl _) _ _ _ hm
      | exit i => exact ⟨n, by rw [hn]; exact e⟩
      | ret => exact ⟨n, by rw [hn]; exact e⟩

theorem execN_mono {n m : Nat} (h : n ≤ m) (c : C) (fr : List D) (S : Store) : LeO (exec (callN dp n) n c fr S) (exec (callN dp m) m c fr S) :=
  exec_mono (callN_mono dp n m h) h c fr S

theorem execL_ex : ∀ (c : C) (fr : List D) (S : Store) (r : Out), execL (call dp) c fr S = some r → ∃ n, exec (callN dp n) n c fr S = some r
  | .skip, _, _, _, h => ⟨0, h⟩
  | .reg ops kill, fr, S, r, h => by
    simp only [execL, exec] at *
    cases hi : evIs (call dp) fr S ops with
    | none => simp [hi] at h
    | some p =>
      obtain ⟨n, e⟩ := evIs_ex hi
      exact ⟨n, by rw [e]; rw [hi] at h; exact h⟩
  | .dreg ops kill, fr, S, r, h => by
    simp only [execL, exec] at *
    cases hi : evIs (call dp) fr S (snds ops) with
    | none => simp [hi] at h
    | some p =>
      obtain ⟨n, e⟩ := evIs_ex hi
      exact ⟨n, by rw [e]; rw [hi] at h; exact h⟩
  | .seq a b, fr, S, r, h => by
    simp only [execL, exec] at *
    cases ha : execL (call dp) a fr S with
    | none => simp [ha] at h
    | some p =>
      rw [ha] at h
      obtain ⟨n, e⟩ := execL_ex a _ _ _ ha
      obtain ⟨ex, fr', S'⟩ := p
      cases ex with
      | normal =>
        obtain ⟨m, e'⟩ := execL_ex b _ _ _ h
        refine ⟨max n m, ?_⟩
        rw [execN_mono (Nat.le_max_left n m) _ _ _ _ e]
        exact execN_mono (Nat.le_max_right n m) _ _ _ _ e'
      | exit i => exact ⟨n, by rw [e]; exact h⟩
      | ret => exact ⟨n, by rw [e]; exact h⟩
  | .cond q a b, fr, S, r, h => by
    simp only [execL, exec] at *
    cases hq : av fr q with
    | b y =>
      rw [hq] at h
      cases y with
      | true => exact execL_ex a _ _ _ h
      | false => exact execL_ex b _ _ _ h
    | _ => simp [hq] at h
  | .blk id a, fr, S, r, h => by
    simp only [execL, exec] at *
    cases ha : execL (call dp) a fr S with
    | none => simp [ha] at h
    | some p =>
      obtain ⟨n, e⟩ := execL_ex a _ _ _ ha
      exact ⟨n, by rw [e]; rw [ha] at h; exact h⟩
  | .loop kl a, fr, S, r, h => by
    simp only [execL, exec] at *
    obtain ⟨k, hk⟩ := (lim_iff (fun n m hm => iter_mono (fun _ _ => LeO.refl _) n m hm fr S) r).1 h
    obtain ⟨n, hn⟩ := iter_ex (f := fun n fr S => exec (callN dp n) n a (fkill fr kl) S) (fun n m hm fr S => execN_mono hm a (fkill fr kl) S) (fun fr S r => execL_ex a (fkill fr kl) S r) k fr S r hk
    refine ⟨max n k, ?_⟩
    exact iter_mono (fun fr S => execN_mono (Nat.le_max_left n k) a (fkill fr kl) S) k (max n k) (Nat.le_max_right _ _) _ _ _ hn
  | .exit _, _, _, _, h => ⟨0, h⟩
  | .ret, _, _, _, h => ⟨0, h⟩
  | .bad, _, _, _, h => by cases h

theorem exec_execL (n : Nat) : ∀ (c : C) (fr : List D) (S : Store), LeO (exec (callN dp n) n c fr S) (execL (call dp) c fr S)
  | .skip, _, _ => LeO.refl _
  | .reg ops kill, fr, S => by
    intro x e
    simp only [exec, execL] at *
    cases hi : evIs (callN dp n) fr S ops with
    | none => simp [hi] at e
    | some p => rw [evIs_mono (callN_call n) ops fr S p hi]; rw [hi] at e; exact e
  | .dreg ops kill, fr, S => by
    intro x e
    simp only [exec, execL] at *
    cases hi : evIs (callN dp n) fr S (snds ops) with
    | none => simp [hi] at e
    | some p => rw [evIs_mono (callN_call n) (snds ops) fr S p hi]; rw [hi] at e; exact e
  | .seq a b, fr, S => by
    intro x e
    simp only [exec, execL] at *
    cases ha : exec (callN dp n) n a fr S with
    | none => simp [ha] at e
    | some p =>
      rw [exec_execL n a fr S p ha]
      rw [ha] at e
      obtain ⟨ex, fr', S'⟩ := p
      cases ex with
      | normal => exact exec_execL n b _ _ _ e
      | exit _ => exact e
      | ret => exact e
  | .cond q a b, fr, S => by
    intro x e
    simp only [exec, execL] at *
    cases hq : av fr q with
    | b y =>
      rw [hq] at e
      cases y with
      | true => exact exec_execL n a _ _ _ e
      | false => exact exec_execL n b _ _ _ e
    | _ => simp [hq] at e
  | .blk id a, fr, S => by
    intro x e
    simp only [exec, execL] at *
    cases ha : exec (callN dp n) n a fr S with
    | none => simp [ha] at e
    | some p => rw [exec_execL n a fr S p ha]; rw [ha] at e; exact e
  | .loop kl a, fr, S => by
    intro x e
    simp only [exec, execL] at *
    exact (lim_iff (fun n m hm => iter_mono (fun _ _ => LeO.refl _) n m hm fr S) x).2 ⟨n, iter_mono (fun fr S => exec_execL n a (fkill fr kl) S) n n (Nat.le_refl _) _ _ _ e⟩
  | .exit _, _, _ => LeO.refl _
  | .ret, _, _ => LeO.refl _
  | .bad, _, _ => LeO.refl _

theorem execL_iff (c : C) (fr : List D) (S : Store) (r : Out) : execL (call dp) c fr S = some r ↔ ∃ n, exec (callN dp n) n c fr S = some r :=
  ⟨execL_ex c fr S r, fun ⟨n, h⟩ => exec_execL n c fr S r h⟩

theorem Option.ext_some {α : Type} {x y : Option α} (h : ∀ r, x = some r ↔ y = some r) : x = y := by
  cases hx : x with
  | none => cases hy : y with
    | none => rfl
    | some b => have := (h b).2 hy; rw [hx] at this; cases this
  | some a => exact ((h a).1 hx).symm

/-- The equation of a call. -/
theorem call_eq (g : Nat) (a : List D) (S : Store) : call dp g a S = match dp g with
    | some f => if a.length = f.np ∧ f.np ≤ f.nt then finish f (execL (call dp) f.body (frame0 f a) S) else primD f a S
    | none => none := by
  apply Option.ext_some
  intro r
  rw [call_iff]
  constructor
  · rintro ⟨n, h⟩
    cases n with
    | zero => cases h
    | succ n =>
      simp only [callN] at h
      cases hg : dp g with
      | none => simp [hg] at h
      | some f =>
        simp only [hg] at h ⊢
        split at h
        · rename_i hn
          rw [if_pos hn]
          exact finish_mono f (exec_execL n f.body _ _) _ h
        · rename_i hn
          rw [if_neg hn]
          exact h
  · intro h
    cases hg : dp g with
    | none => simp [hg] at h
    | some f =>
      simp only [hg] at h
      split at h
      · rename_i hn
        cases he : execL (call dp) f.body (frame0 f a) S with
        | none => simp [he, finish] at h
        | some p =>
          obtain ⟨n, e⟩ := execL_ex _ _ _ _ he
          refine ⟨n + 1, ?_⟩
          simp only [callN, hg]
          rw [if_pos hn, e, ← he]
          exact h
      · rename_i hn
        refine ⟨1, ?_⟩
        simp only [callN, hg]
        rw [if_neg hn]
        exact h
end

end Go.Proofs.YtjniafcnjbbomaaGreatDoor.DE

namespace Go.Proofs.YtjniafcnjbbomaaGreatDoor.DE
open Go

section
variable {cf : CallF} {fr fr' : List D} {S S' : Store}

/-- The code ends, and so that Q holds. -/
def W (cf : CallF) (c : C) (fr : List D) (S : Store) (Q : Ex → List D → Store → Prop) : Prop := match execL cf c fr S with
  | some (ex, fr', S') => Q ex fr' S'
  | none => False

theorem W_ex {c : C} {Q : Ex → List D → Store → Prop} : W cf c fr S Q ↔ ∃ ex fr' S', execL cf c fr S = some (ex, fr', S') ∧ Q ex fr' S' := by
  unfold W
  cases h : execL cf c fr S with
  | none => simp
  | some p =>
    obtain ⟨ex, f1, S1⟩ := p
    constructor
    · exact fun h => ⟨ex, f1, S1, rfl, h⟩
    · rintro ⟨ex', f2, S2, h1, h2⟩
      injection h1 with h1
      injection h1 with h1 h3
      injection h3 with h3 h4
      subst h1 h3 h4
      exact h2

def Qseq (K : List D → Store → Prop) (Q : Ex → List D → Store → Prop) : Ex → List D → Store → Prop
  | .normal, fr, S => K fr S
  | ex, fr, S => Q ex fr S

def Qblk (id : Nat) (Q : Ex → List D → Store → Prop) : Ex → List D → Store → Prop
  | .exit j, fr, S => if j = id then Q .normal fr S else Q (.exit j) fr S
  | ex, fr, S => Q ex fr S

def WB (d : D) (X Y : Prop) : Prop := match d with
  | .b true => X
  | .b false => Y
  | _ => False

def WG (d : D) (w : Bool) (X Y : Prop) : Prop := match d with
  | .b x => if x = w then X else Y
  | .tup [] => Y
  | _ => False

def WR (r : Option (D × Store)) (K : D → Store → Prop) : Prop := match r with
  | some (d, S) => K d S
  | none => False

def WI (cf : CallF) : List I → List D → Store → (List D → Store → Prop) → Prop
  | [], fr, S, Q => Q fr S
  | i :: is, fr, S, Q => match evI cf fr S i with
    | some (fr', S') => WI cf is fr' S' Q
    | none => False

def WD (cf : CallF) : List (Nat × I) → List D → Store → (List D → Store → Prop) → Prop
  | [], fr, S, Q => Q fr S
  | (_, i) :: is, fr, S, Q => match evI cf fr S i with
    | some (fr', S') => WD cf is fr' S' Q
    | none => False

@[congr] theorem W_congr {c : C} {Q : Ex → List D → Store → Prop} (h : fr = fr') (k : S = S') : W cf c fr S Q = W cf c fr' S' Q := by rw [h, k]
@[congr] theorem WI_congr {c : List I} {Q : List D → Store → Prop} (h : fr = fr') (k : S = S') : WI cf c fr S Q = WI cf c fr' S' Q := by rw [h, k]
@[congr] theorem WD_congr {c : List (Nat × I)} {Q : List D → Store → Prop} (h : fr = fr') (k : S = S') : WD cf c fr S Q = WD cf c fr' S' Q := by rw [h, k]
@[congr] theorem WB_congr {d d' : D} {X Y : Prop} (h : d = d') : WB d X Y = WB d' X Y := by rw [h]
@[congr] theorem WG_congr {d d' : D} {w : Bool} {X Y : Prop} (h : d = d') : WG d w X Y = WG d' w X Y := by rw [h]
@[congr] theorem WR_congr {r r' : Option (D × Store)} {K : D → Store → Prop} (h : r = r') : WR r K = WR r' K := by rw [h]
@[congr] theorem Qseq_congr {K : List D → Store → Prop} {Q : Ex → List D → Store → Prop} {ex ex' : Ex} (e : ex = ex') (h : fr = fr') (k : S = S') : Qseq K Q ex fr S = Qseq K Q ex' fr' S' := by rw [e, h, k]
@[congr] theorem Qblk_congr {id : Nat} {Q : Ex → List D → Store → Prop} {ex ex' : Ex} (e : ex = ex') (h : fr = fr') (k : S = S') : Qblk id Q ex fr S = Qblk id Q ex' fr' S' := by rw [e, h, k]

theorem Qseq_normal (K : List D → Store → Prop) (Q : Ex → List D → Store → Prop) (fr : List D) (S : Store) : Qseq K Q .normal fr S = K fr S := (rfl)
theorem Qseq_exit (K : List D → Store → Prop) (Q : Ex → List D → Store → Prop) (id : Nat) (fr : List D) (S : Store) : Qseq K Q (.exit id) fr S = Q (.exit id) fr S := (rfl)
theorem Qseq_ret (K : List D → Store → Prop) (Q : Ex → List D → Store → Prop) (fr : List D) (S : Store) : Qseq K Q .ret fr S = Q .ret fr S := (rfl)
theorem Qblk_normal (id : Nat) (Q : Ex → List D → Store → Prop) (fr : List D) (S : Store) : Qblk id Q .normal fr S = Q .normal fr S := (rfl)
theorem Qblk_ret (id : Nat) (Q : Ex → List D → Store → Prop) (fr : List D) (S : Store) : Qblk id Q .ret fr S = Q .ret fr S := (rfl)
theorem Qblk_same (id : Nat) (Q : Ex → List D → Store → Prop) (fr : List D) (S : Store) : Qblk id Q (.exit id) fr S = Q .normal fr S := by simp [Qblk]
theorem Qblk_other (id j : Nat) (h : (j == id) = false) (Q : Ex → List D → Store → Prop) (fr : List D) (S : Store) : Qblk id Q (.exit j) fr S = Q (.exit j) fr S := by
  have : ¬ j = id := by simpa using h
  simp [Qblk, this]

theorem WB_true (X Y : Prop) : WB (.b true) X Y = X := rfl
theorem WB_false (X Y : Prop) : WB (.b false) X Y = Y := rfl
theorem W_skip (Q : Ex → List D → Store → Prop) : W cf .skip fr S Q = Q .normal fr S := by simp [W, execL]
theorem W_exit (id : Nat) (Q : Ex → List D → Store → Prop) : W cf (.exit id) fr S Q = Q (.exit id) fr S := by simp [W, execL]
theorem W_ret (Q : Ex → List D → Store → Prop) : W cf .ret fr S Q = Q .ret fr S := by simp [W, execL]

theorem WI_iff (Q : List D → Store → Prop) : ∀ (is : List I) (fr : List D) (S : Store), WI cf is fr S Q = match evIs cf fr S is with | some (fr', S') => Q fr' S' | none => False
  | [], fr, S => rfl
  | i :: is, fr, S => by
    simp only [WI, evIs]
    cases evI cf fr S i with
    | none => rfl
    | some p => exact WI_iff Q is p.1 p.2

theorem WD_WI (Q : List D → Store → Prop) : ∀ (is : List (Nat × I)) (fr : List D) (S : Store), WD cf is fr S Q ↔ WI cf (snds is) fr S Q
  | [], fr, S => Iff.rfl
  | (j, i) :: is, fr, S => by
    simp only [WD, snds, WI]
    cases evI cf fr S i with
    | none => exact Iff.rfl
    | some p => exact WD_WI Q is p.1 p.2

theorem W_reg (is : List I) (kl : List Nat) (Q : Ex → List D → Store → Prop) : W cf (.reg is kl) fr S Q = WI cf is fr S (fun fr S => Q .normal (fkill fr kl) S) := by
  rw [WI_iff]
  simp only [W, execL]
  cases h : evIs cf fr S is <;> rfl

theorem W_dreg (is : List (Nat × I)) (kl : List Nat) (Q : Ex → List D → Store → Prop) : W cf (.dreg is kl) fr S Q = WD cf is fr S (fun fr S => Q .normal (fkill fr kl) S) := by
  rw [propext (WD_WI _ is fr S), WI_iff]
  simp only [W, execL]
  cases h : evIs cf fr S (snds is) <;> rfl

theorem W_seq (x y : C) (Q : Ex → List D → Store → Prop) : W cf (.seq x y) fr S Q = W cf x fr S (Qseq (fun fr S => W cf y fr S Q) Q) := by
  simp only [W, execL]
  cases h : execL cf x fr S with
  | none => rfl
  | some p =>
    obtain ⟨ex, f1, S1⟩ := p
    cases ex <;> rfl

theorem W_blk (id : Nat) (x : C) (Q : Ex → List D → Store → Prop) : W cf (.blk id x) fr S Q = W cf x fr S (Qblk id Q) := by
  simp only [W, execL]
  cases h : execL cf x fr S with
  | none => rfl
  | some p =>
    obtain ⟨ex, f1, S1⟩ := p
    cases ex with
    | normal => rfl
    | exit j =>
      simp only [Qblk]
      split <;> rfl
    | ret => rfl

theorem W_cond (q : A) (x y : C) (Q : Ex → List D → Store → Prop) : W cf (.cond q x y) fr S Q = WB (av fr q) (W cf x fr S Q) (W cf y fr S Q) := by
  simp only [W, execL]
  cases av fr q <;> try rfl
  rename_i b
  cases b <;> rfl

theorem WI_op (dst : Option Nat) (r : R) (is : List I) (Q : List D → Store → Prop) : WI cf (.op dst none r :: is) fr S Q = WR (evR cf fr S r) (fun d S => WI cf is (fsetO fr dst d) S Q) := by
  simp only [WI, evI, DE.wanted]
  cases evR cf fr S r <;> rfl

theorem WI_gd (dst : Option Nat) (t : Nat) (w : Bool) (r : R) (is : List I) (Q : List D → Store → Prop) : WI cf (.op dst (some (t, w)) r :: is) fr S Q =
    WG (fget fr t) w (WR (evR cf fr S r) (fun d S => WI cf is (fsetO fr dst d) S Q)) (WI cf is (fsetO fr dst (.tup [])) S Q) := by
  simp only [WI, evI, DE.wanted]
  generalize fget fr t = d
  cases d <;> try rfl
  · rename_i x
    by_cases h : x = w
    · subst h
      simp only [beq_self_eq_true, WG, if_true]
      cases evR cf fr S r <;> rfl
    · have : (x == w) = false := by simpa using h
      simp [WG, h, this]
  · rename_i l
    cases l <;> rfl

theorem WI_fz (t : Nat) (is : List I) (Q : List D → Store → Prop) : WI cf (.fz t :: is) fr S Q = WR (fzD (fget fr t) S) (fun d S => WI cf is (fset fr t d) S Q) := by
  simp only [WI, evI]
  cases fzD (fget fr t) S <;> rfl

def WK (r : Option (D × Store)) (d : D) (K : Prop) : Prop := match r with
  | some (e, _) => deq e d = true ∧ K
  | none => False

@[congr] theorem WK_congr {r r' : Option (D × Store)} {d d' : D} {K : Prop} (h : r = r') (k : d = d') : WK r d K = WK r' d' K := by rw [h, k]
theorem W_loop {kl : List Nat} {c : C} {Q : Ex → List D → Store → Prop} (J : Nat → List D → Store → Prop)
    (h : ∀ m fr S, J m fr S → W cf c (fkill fr kl) S (Qseq (fun fr' S' => ∃ m', m' < m ∧ J m' fr' S') Q)) : ∀ m fr S, J m fr S → W cf (.loop kl c) fr S Q := by
  have key : ∀ m fr S, J m fr S → ∃ n ex fr' S', iter (fun fr S => execL cf c (fkill fr kl) S) n fr S = some (ex, fr', S') ∧ Q ex fr' S' := by
    intro m
    induction m using Nat.strongRecOn with
    | _ m ih =>
      intro fr S hJ
      obtain ⟨ex, f1, S1, he, hq⟩ := W_ex.1 (h m fr S hJ)
      cases ex with
      | normal =>
        obtain ⟨m', hlt, hJ'⟩ := hq
        obtain ⟨n, ex', f2, S2, he2, hq2⟩ := ih m' hlt f1 S1 hJ'
        exact ⟨n + 1, ex', f2, S2, by simp only [iter, he]; exact he2, hq2⟩
      | exit id => exact ⟨1, .exit id, f1, S1, by simp only [iter, he], hq⟩
      | ret => exact ⟨1, .ret, f1, S1, by simp only [iter, he], hq⟩
  intro m fr S hJ
  obtain ⟨n, ex, f1, S1, he, hq⟩ := key m fr S hJ
  refine W_ex.2 ⟨ex, f1, S1, ?_, hq⟩
  simp only [execL]
  exact (lim_iff (fun n m hm => iter_mono (fun _ _ => LeO.refl _) n m hm fr S) _).2 ⟨n, he⟩

theorem W_mono {c : C} {Q Q' : Ex → List D → Store → Prop} (h : W cf c fr S Q) (hq : ∀ ex fr S, Q ex fr S → Q' ex fr S) : W cf c fr S Q' := by
  obtain ⟨ex, f1, S1, he, h⟩ := W_ex.1 h
  exact W_ex.2 ⟨ex, f1, S1, he, hq _ _ _ h⟩

/-- What a function's body is to end with. -/
def Fin (f : Fn) (Post : D → Store → Prop) : Ex → List D → Store → Prop
  | .exit _, _, _ => False
  | _, fr, S => match resL fr S f.res with
    | some l => Post (resD l) S
    | none => False

end

section
variable {dp : Nat → Option Fn} {S S' : Store}

theorem call_W {g : Nat} {f : Fn} {args : List D} {Post : D → Store → Prop} (hg : dp g = some f) (hn : args.length = f.np ∧ f.np ≤ f.nt)
    (h : W (call dp) f.body (frame0 f args) S (Fin f Post)) : ∃ r S', call dp g args S = some (r, S') ∧ Post r S' := by
  obtain ⟨ex, f1, S1, he, hq⟩ := W_ex.1 h
  rw [call_eq]
  simp only [hg, hn, and_self, if_true, he]
  cases ex with
  | exit id => exact hq.elim
  | normal =>
    simp only [Fin] at hq
    simp only [finish]
    cases hr : resL f1 S1 f.res with
    | none => simp [hr] at hq
    | some l => rw [hr] at hq; exact ⟨_, _, rfl, hq⟩
  | ret =>
    simp only [Fin] at hq
    simp only [finish]
    cases hr : resL f1 S1 f.res with
    | none => simp [hr] at hq
    | some l => rw [hr] at hq; exact ⟨_, _, rfl, hq⟩

/-- A call with its own store. -/
theorem iso_W {g : Nat} {f : Fn} {args : List D} {r : D} (hg : dp g = some f) (hn : args.length = f.np ∧ f.np ≤ f.nt) (ha : noRefL (stripL args) = true) (hr : noRef r = true)
    (h : W (call dp) f.body (frame0 f (stripL args)) [] (Fin f fun d _ => stripT d = r)) : isoCall (call dp) g args = some r := by
  obtain ⟨d, S', h1, h2⟩ := call_W (args := stripL args) hg (by
    refine ⟨?_, hn.2⟩
    rw [← hn.1]
    clear hn ha h
    induction args with
    | nil => rfl
    | cons x l ih => simp [stripL, ih]) h
  simp only [isoCall, ha, if_true, h1, h2, hr]

end

end Go.Proofs.YtjniafcnjbbomaaGreatDoor.DE

namespace Go.Proofs.YtjniafcnjbbomaaGreatDoor.DE
open Go

/-- A value that is there is handed on. -/
def OX {α : Type} (o : Option α) (K : α → Prop) : Prop := match o with
  | some x => K x
  | none => False

@[congr] theorem OX_congr {α : Type} {o o' : Option α} {K : α → Prop} (h : o = o') : OX o K = OX o' K := by rw [h]
@[simp] theorem OX_some {α : Type} (x : α) (K : α → Prop) : OX (some x) K = K x := (rfl)

/-! Operations on values. -/

def nilckD : D → Option D
  | .bx i o => some (.bx i o)
  | .el c o => some (.el c o)
  | .fn g c => some (.fn g c)
  | _ => none

def pickD (c a b : D) : Option D := match c with
  | .b x => some (if x then a else b)
  | _ => none

def convD (k : IntKind) : D → Option D
  | .i _ n => some (.i k (k.wrap n))
  | _ => none

def faD (o : Nat) : D → Option D
  | .bx id p => some (.bx id (p + o))
  | .el cs p => some (.el cs (p + o))
  | _ => none

def fldD (o k : Nat) (g : Bool) : D → Option D
  | .agg cs => rdK cs o k g
  | _ => none

def iaaD (n k : Nat) (x i : D) : Option D := match x, i with
  | .bx id o, .i _ m => if 0 ≤ m ∧ m < n then some (.bx id (o + m.toNat * k)) else none
  | _, _ => none

def ixsD (x i : D) : Option D := match x, i with
  | .s l, .i _ m => if 0 ≤ m then (l[m.toNat]?).map fun c => .i .u8 c.toNat else none
  | _, _ => none

def okD (ok : Bool) (z : D) : Option D → D
  | some v => if ok then .tup [v, .b true] else v
  | none => if ok then .tup [z, .b false] else z

def lkD' (kk : KK) (ok : Bool) (z : D) (S : Store) (m key : D) : Option D := if isKey kk key then
    (match m with
    | .nilm => some (okD ok z none)
    | .mp id => match sget S id with
      | some (.map es) => (lkD kk key es).map (okD ok z)
      | _ => none
    | _ => none) else none

def extD (x : D) (j : Nat) : Option D := match x with
  | .tup cs => cs[j]?
  | _ => none

def lenD (str : Bool) (x : D) : Option D := match str, x with
  | false, .sl _ _ xs _ => some (.i .i64 xs.length)
  | false, .ar _ _ _ n => some (.i .i64 n)
  | true, .s l => some (.i .i64 l.length)
  | _, _ => none

def mxD (x y : D) : Option D := match x, y with
  | .i k a, .i k' b => if k = k' then some (.i k (if b > a then b else a)) else none
  | _, _ => none

def mnD (x y : D) : Option D := match x, y with
  | .i k a, .i k' b => if k = k' then some (.i k (if b < a then b else a)) else none
  | _, _ => none

def cmpsD (x y : D) : Option D := match x, y with
  | .s a, .s b => some (.i .i64 (if Op.bytesLess a b then -1 else if a == b then 0 else 1))
  | _, _ => none

def avP (fr : List D) : List (Nat × Nat × Bool × A) → List (Nat × Nat × Bool × D)
  | [] => []
  | (o, k, g, x) :: l => (o, k, g, av fr x) :: avP fr l

def bldV (z : List D) : List (Nat × Nat × Bool × D) → Option (List D)
  | [] => some z
  | (o, k, g, x) :: ps => match cellsK k g x with
    | some cs => if o + k ≤ z.length then bldV (splice z o cs) ps else none
    | none => none

def cellsV (k : Nat) (g : Bool) : List D → Option (List (List D))
  | [] => some []
  | x :: l => match cellsK k g x, cellsV k g l with
    | some cs, some r => some (cs :: r)
    | _, _ => none

def muD' (kk : KK) (S : Store) (m key v : D) : Option Store := if isKey kk key then
    (match m with
    | .mp id => match sget S id with
      | some (.map es) => (muD kk key v es).map fun es' => sset S id (.map es')
      | _ => none
    | _ => none) else none

def clrD (k : Nat) (z : List D) (S : Store) (x : D) : Option Store := match x with
  | .ar k' id o n => if k' = k ∧ z.length = k then (match sget S id with
    | some (.box cs) => if o + n * k ≤ cs.length then some (sset S id (.box (splice cs o (List.replicate n z).flatten))) else none
    | _ => none) else none
  | .sl _ _ [] _ => some S
  | _ => none

def fnD : D → Option (Nat × List D)
  | .fn g cs => some (g, cs)
  | _ => none

def mkslV (k : Nat) (arr : Bool) (z : List D) (S : Store) (n : D) : Option (D × Store) := match n with
  | .i _ m => if 0 ≤ m ∧ m ≤ maxLenD then
      (if arr then some (.ar k S.length 0 m.toNat, .box (List.replicate m.toNat z).flatten :: S)
      else (if m = 0 then some (.sl k false [] .cap0, S) else some (.sl k false (List.replicate m.toNat z) (.tok S.length), .tok true :: S))) else none
  | _ => none

def bslO (k : Nat) (l : List (List D)) (S : Store) : D × Store := if l.isEmpty then (.sl k false [] .cap0, S) else (.sl k false l (.tok S.length), .tok true :: S)

def mentV (kk : KK) (z : D) (S : Store) (m key : D) : Option (D × Store) := if isKey kk key then
    (match m with
    | .mp id => match sget S id with
      | some (.map es) => match posD kk key es 0 with
        | some (some j) => match es[j]? with
          | some e => some (.tup [e.2, .i .i64 j], sset S id (.map (putD key j es)))
          | none => none
        | some none => some (.tup [z, .i .i64 es.length], sset S id (.map (es ++ [(key, z)])))
        | none => none
      | _ => none
    | _ => none) else none

def estV (S : Store) (m j v : D) : Option Store := match m, j with
  | .mp id, .i _ n => match sget S id with
    | some (.map es) => if 0 ≤ n ∧ n < es.length then some (sset S id (.map (valD v n.toNat es))) else none
    | _ => none
  | _, _ => none

/-- Is the operation's outcome a value alone? -/
def isV : R → Bool
  | .alloc _ => false
  | .box _ _ _ => false
  | .bsl _ _ own _ => !own
  | .bsa _ _ _ => false
  | .st _ _ _ _ => false
  | .mkmap => false
  | .mksl _ _ _ _ => false
  | .mu _ _ _ _ => false
  | .ment _ _ _ _ => false
  | .est _ _ _ => false
  | .app _ _ _ _ => false
  | .clr _ _ _ => false
  | .call _ iso _ => iso
  | .calld _ iso _ => iso
  | _ => true

section
variable (cf : CallF) (fr : List D) (S : Store)

def rV : R → Option D
  | .mv x => some (av fr x)
  | .nilck x => nilckD (av fr x)
  | .pick c a b => pickD (av fr c) (av fr a) (av fr b)
  | .bld z ps => (bldV z (avP fr ps)).map .agg
  | .bsl k g _ xs => (cellsV k g (avs fr xs)).map fun l => .sl k false l .ro
  | .ld k g a => ldD S k g (av fr a)
  | .bin op q x y => binD op q (av fr x) (av fr y)
  | .un op x => unD op (av fr x)
  | .conv k x => convD k (av fr x)
  | .mkfn g cs => some (.fn g (avs fr cs))
  | .slc k x lo hi => slcD k (av fr x) (avo fr lo) (avo fr hi)
  | .slcs x lo hi => slcsD (av fr x) (avo fr lo) (avo fr hi)
  | .fa o x => faD o (av fr x)
  | .fld o k g x => fldD o k g (av fr x)
  | .ia k x i => iaD k (av fr x) (av fr i)
  | .iaa n k x i => iaaD n k (av fr x) (av fr i)
  | .ixs x i => ixsD (av fr x) (av fr i)
  | .lk kk ok z m key => lkD' kk ok z S (av fr m) (av fr key)
  | .ext x j => extD (av fr x) j
  | .len str x => lenD str (av fr x)
  | .mx x y => mxD (av fr x) (av fr y)
  | .mn x y => mnD (av fr x) (av fr y)
  | .cmps x y => cmpsD (av fr x) (av fr y)
  | .call g _ args => isoCall cf g (avs fr args)
  | .calld f _ args => match fnD (av fr f) with
    | some p => isoCall cf p.1 (avs fr args ++ p.2)
    | none => none
  | _ => none

def wpR : R → (D → Store → Prop) → Prop
  | .mv x, K => K (av fr x) S
  | .mkfn g cs, K => K (.fn g (avs fr cs)) S
  | .alloc z, K => K (.bx S.length 0) (.box z :: S)
  | .mkmap, K => K (.mp S.length) (.map [] :: S)
  | .box k g x, K => OX (cellsK k g (av fr x)) fun cs => K (.bx S.length 0) (.box cs :: S)
  | .bld z ps, K => OX (bldV z (avP fr ps)) fun cs => K (.agg cs) S
  | .bsl k g own xs, K => match own with
    | false => OX (cellsV k g (avs fr xs)) fun l => K (.sl k false l .ro) S
    | true => OX (cellsV k g (avs fr xs)) fun l => K (bslO k l S).1 (bslO k l S).2
  | .bsa k g xs, K => OX (cellsV k g (avs fr xs)) fun l => K (.ar k S.length 0 l.length) (.box l.flatten :: S)
  | .st k g a v, K => OX (stD S k g (av fr a) (av fr v)) fun S' => K (.tup []) S'
  | .mksl k arr z n, K => OX (mkslV k arr z S (av fr n)) fun p => K p.1 p.2
  | .mu kk m key v, K => OX (muD' kk S (av fr m) (av fr key) (av fr v)) fun S' => K (.tup []) S'
  | .app k arr x y, K => OX (appD k arr (av fr x) (av fr y) S) fun p => K p.1 p.2
  | .clr k z x, K => OX (clrD k z S (av fr x)) fun S' => K (.tup []) S'
  | .call g iso args, K => match iso with
    | true => OX (isoCall cf g (avs fr args)) fun d => K d S
    | false => OX (cf g (avs fr args) S) fun p => K p.1 p.2
  | .calld f iso args, K => match iso with
    | true => OX (fnD (av fr f)) fun q => OX (isoCall cf q.1 (avs fr args ++ q.2)) fun d => K d S
    | false => OX (fnD (av fr f)) fun q => OX (cf q.1 (avs fr args ++ q.2) S) fun p => K p.1 p.2
  | .ment kk z m key, K => OX (mentV kk z S (av fr m) (av fr key)) fun p => K p.1 p.2
  | .est m j v, K => OX (estV S (av fr m) (av fr j) (av fr v)) fun S' => K (.tup []) S'
  | r, K => OX (rV cf fr S r) fun d => K d S

end

def al (z : List D) (S : Store) (K : D → Store → Prop) : Prop := K (.bx S.length 0) (.box z :: S)
def mm (S : Store) (K : D → Store → Prop) : Prop := K (.mp S.length) (.map [] :: S)
def jn {α : Type} (K : α) (X : α → Prop) : Prop := X K

/-- A frame: what is not named is empty. -/
def mkf (n : Nat) : List (Nat × D) → List D
  | [] => List.replicate n .top
  | (i, v) :: l => fset (mkf n l) i v

/-- Under a guard: the value, or nothing. -/
def gsel (d : D) (w : Bool) (o : Option D) : Option D := match d with
  | .b x => if x = w then o else some (.tup [])
  | .tup [] => some (.tup [])
  | _ => none

def gselS (d : D) (w : Bool) (S : Store) (o : Option (D × Store)) : Option (D × Store) := match d with
  | .b x => if x = w then o else some (.tup [], S)
  | .tup [] => some (.tup [], S)
  | _ => none

@[simp] theorem gsel_tt (o : Option D) : gsel (.b true) true o = o := (rfl)
@[simp] theorem gsel_ff (o : Option D) : gsel (.b false) false o = o := (rfl)
@[simp] theorem gsel_tf (o : Option D) : gsel (.b true) false o = some (.tup []) := (rfl)
@[simp] theorem gsel_ft (o : Option D) : gsel (.b false) true o = some (.tup []) := (rfl)
@[simp] theorem gsel_skip (w : Bool) (o : Option D) : gsel (.tup []) w o = some (.tup []) := (rfl)
@[simp] theorem gselS_tt (S : Store) (o : Option (D × Store)) : gselS (.b true) true S o = o := (rfl)
@[simp] theorem gselS_ff (S : Store) (o : Option (D × Store)) : gselS (.b false) false S o = o := (rfl)
@[simp] theorem gselS_tf (S : Store) (o : Option (D × Store)) : gselS (.b true) false S o = some (.tup [], S) := (rfl)
@[simp] theorem gselS_ft (S : Store) (o : Option (D × Store)) : gselS (.b false) true S o = some (.tup [], S) := (rfl)
@[simp] theorem gselS_skip (w : Bool) (S : Store) (o : Option (D × Store)) : gselS (.tup []) w S o = some (.tup [], S) := (rfl)

/-! The frame is kept as a list that stands there. -/
def setF : List D → Nat → D → (List D → Prop) → Prop
  | [], _, _, K => K []
  | _ :: l, 0, v, K => K (v :: l)
  | d :: l, n + 1, v, K => setF l n v fun l' => K (d :: l')
def setO (fr : List D) (dst : Option Nat) (d : D) (K : List D → Prop) : Prop := match dst with
  | none => K fr
  | some t => setF fr t d K
def killF : List D → List Nat → (List D → Prop) → Prop
  | fr, [], K => K fr
  | fr, t :: l, K => setF fr t .top fun fr' => killF fr' l K
def frc : List D → (List D → Prop) → Prop
  | [], K => K []
  | d :: l, K => frc l fun l' => K (d :: l')

theorem setF_eq : ∀ (fr : List D) (t : Nat) (d : D) (K : List D → Prop), setF fr t d K = K (fset fr t d)
  | [], _, _, _ => rfl
  | _ :: _, 0, _, _ => rfl
  | _ :: l, n + 1, v, K => by simp only [setF, fset]; exact setF_eq l n v _
theorem setO_eq (fr : List D) (dst : Option Nat) (d : D) (K : List D → Prop) : setO fr dst d K = K (fsetO fr dst d) := by
  cases dst with
  | none => rfl
  | some t => exact setF_eq fr t d K
theorem killF_eq : ∀ (l : List Nat) (fr : List D) (K : List D → Prop), killF fr l K = K (fkill fr l)
  | [], _, _ => rfl
  | t :: l, fr, K => by simp only [killF, setF_eq, fkill]; exact killF_eq l _ K
theorem frc_eq : ∀ (fr : List D) (K : List D → Prop), frc fr K = K fr
  | [], _ => rfl
  | d :: l, K => by simp only [frc]; exact frc_eq l _

def wpI (cf : CallF) : List I → List D → Store → (List D → Store → Prop) → Prop
  | [], fr, S, Q => Q fr S
  | .op dst none r :: is, fr, S, Q => wpR cf fr S r fun d S' => setO fr dst d fun fr' => wpI cf is fr' S' Q
  | .op dst (some (t, w)) r :: is, fr, S, Q => match isV r with
    | true => OX (gsel (fget fr t) w (rV cf fr S r)) fun d => setO fr dst d fun fr' => wpI cf is fr' S Q
    | false => OX (gselS (fget fr t) w S (evR cf fr S r)) fun p => setO fr dst p.1 fun fr' => wpI cf is fr' p.2 Q
  | .fz t :: is, fr, S, Q => OX (fzD (fget fr t) S) fun p => setF fr t p.1 fun fr' => wpI cf is fr' p.2 Q
  | .ck t r :: is, fr, S, Q => match isV r with
    | true => OX (rV cf fr S r) fun d => deq d (fget fr t) = true ∧ wpI cf is fr S Q
    | false => OX (evR cf fr S r) fun p => deq p.1 (fget fr t) = true ∧ wpI cf is fr S Q

def wp (cf : CallF) : C → List D → Store → (Ex → List D → Store → Prop) → Prop
  | .skip, fr, S, Q => Q .normal fr S
  | .reg is kl, fr, S, Q => wpI cf is fr S fun fr' S' => killF fr' kl fun fr2 => Q .normal fr2 S'
  | .dreg is kl, fr, S, Q => wpI cf (snds is) fr S fun fr' S' => killF fr' kl fun fr2 => Q .normal fr2 S'
  | .seq a b, fr, S, Q => wp cf a fr S (Qseq (fun fr' S' => wp cf b fr' S' Q) Q)
  | .cond c a b, fr, S, Q => WB (av fr c) (wp cf a fr S Q) (wp cf b fr S Q)
  | .blk id a, fr, S, Q => wp cf a fr S (Qblk id Q)
  | .loop kl a, fr, S, Q => W cf (.loop kl a) fr S Q
  | .exit id, fr, S, Q => Q (.exit id) fr S
  | .ret, fr, S, Q => Q .ret fr S
  | .bad, _, _, _ => False

section
variable {cf : CallF} {fr fr' : List D} {S S' : Store}

theorem bldV_eq : ∀ (ps : List (Nat × Nat × Bool × A)) (z : List D), bldV z (avP fr ps) = bldD fr z ps
  | [], _ => rfl
  | (o, k, g, x) :: ps, z => by
    simp only [avP, bldV, bldD]
    cases cellsK k g (av fr x) with
    | none => rfl
    | some cs =>
      simp only
      split
      · exact bldV_eq ps _
      · rfl

theorem cellsV_eq (k : Nat) (g : Bool) : ∀ (xs : List A), cellsV k g (avs fr xs) = cellsAll fr k g xs
  | [] => rfl
  | x :: xs => by
    simp only [avs, cellsV, cellsAll, cellsV_eq k g xs]
    all_goals (cases cellsK k g (av fr x) <;> cases cellsAll fr k g xs <;> rfl)

theorem rV_eq {r : R} (h : isV r = true) : evR cf fr S r = (rV cf fr S r).map fun d => (d, S) := by
  cases r <;> simp only [isV] at h <;> (try (cases h; done)) <;> simp only [evR, rV]
  case mv x => rfl
  case nilck x => cases av fr x <;> rfl
  case pick c a b =>
    cases av fr c <;> rfl
  case bld z ps => rw [bldV_eq]; cases bldD fr z ps <;> rfl
  case bsl k g own xs =>
    rw [cellsV_eq]
    have : own = false := by simpa using h
    subst this
    cases cellsAll fr k g xs <;> rfl
  case conv k x => cases av fr x <;> rfl
  case mkfn g cs => rfl
  case fa o x => cases av fr x <;> rfl
  case fld o k g x => cases av fr x <;> rfl
  case iaa n k x i =>
    cases av fr x <;> try rfl
    cases av fr i <;> try rfl
    simp only [iaaD]
    split <;> rfl
  case ixs x i =>
    cases av fr x <;> try rfl
    cases av fr i <;> try rfl
    rename_i l k m
    simp only [ixsD]
    split
    · cases l[m.toNat]? <;> rfl
    · rfl
  case lk kk ok z m key =>
    simp only [lkD']
    split
    · cases av fr m <;> try rfl
      rename_i id
      simp only
      cases sget S id with
      | none => rfl
      | some e =>
        cases e <;> try rfl
        rename_i es
        simp only
        cases lkD kk (av fr key) es with
        | none => rfl
        | some r => cases r <;> rfl
    · rfl
  case ext x j => cases av fr x <;> rfl
  case len str x => cases str <;> cases av fr x <;> rfl
  case mx x y =>
    cases av fr x <;> try rfl
    cases av fr y <;> try rfl
    simp only [mxD]
    split <;> rfl
  case mn x y =>
    cases av fr x <;> try rfl
    cases av fr y <;> try rfl
    simp only [mnD]
    split <;> rfl
  case call g iso args => subst h; rfl
  case calld f iso args => subst h; cases av fr f <;> rfl
  case cmps x y =>
    cases av fr x <;> try rfl
    cases av fr y <;> rfl

theorem OX_map {α β : Type} (o : Option α) (f : α → β) (K : β → Prop) : OX (o.map f) K = OX o fun x => K (f x) := by cases o <;> rfl

theorem wpR_eq (r : R) (K : D → Store → Prop) : wpR cf fr S r K = OX (evR cf fr S r) fun p => K p.1 p.2 := by
  have v : ∀ r, isV r = true → (OX (rV cf fr S r) fun d => K d S) = OX (evR cf fr S r) fun p => K p.1 p.2 := by
    intro r h
    rw [rV_eq h, OX_map]
  cases r <;> try exact v _ rfl
  case mv x => rfl
  case mkfn g cs => rfl
  case alloc z => rfl
  case mkmap => rfl
  case box k g x => simp only [wpR, evR, OX_map]
  case bld z ps => rw [← v _ rfl]; simp only [wpR, rV, OX_map]
  case bsl k g own xs =>
    cases own with
    | false => rw [← v _ rfl]; simp only [wpR, rV, OX_map]
    | true =>
      simp only [wpR, evR, cellsV_eq, OX_map, if_true]
      rfl
  case bsa k g xs => simp only [wpR, evR, cellsV_eq, OX_map]
  case st k g a x => simp only [wpR, evR, OX_map]
  case mksl k arr z n =>
    simp only [wpR, evR]
    cases av fr n <;> rfl
  case mu kk m key x =>
    simp only [wpR, evR, muD']
    split
    · cases av fr m <;> try rfl
      rename_i id
      simp only
      cases sget S id with
      | none => rfl
      | some e =>
        cases e <;> try rfl
        simp only [OX_map]
    · rfl
  case ment kk z m key => rfl
  case est m j x =>
    simp only [wpR, evR, estV]
    cases av fr m <;> try rfl
    cases av fr j <;> try rfl
    rename_i id k n
    simp only
    cases sget S id with
    | none => rfl
    | some e =>
      cases e <;> try rfl
      simp only
      split <;> rfl
  case app k arr x y => rfl
  case clr k z x =>
    simp only [wpR, evR, clrD]
    cases av fr x <;> try rfl
    · rename_i k' nl xs ow
      cases xs <;> rfl
    · rename_i k' id o n
      simp only
      split
      · cases sget S id with
        | none => rfl
        | some e =>
          cases e <;> try rfl
          simp only
          split <;> rfl
      · rfl
  case call g iso args =>
    cases iso with
    | true => rw [← v _ rfl]; rfl
    | false => rfl
  case calld f iso args =>
    cases iso with
    | true =>
      rw [← v _ rfl]
      simp only [wpR, rV]
      cases fnD (av fr f) <;> rfl
    | false =>
      simp only [wpR, evR, callR]
      cases av fr f <;> rfl

theorem wpI_eq (Q : List D → Store → Prop) : ∀ (is : List I) (fr : List D) (S : Store), wpI cf is fr S Q = WI cf is fr S Q
  | [], _, _ => rfl
  | .op dst none r :: is, fr, S => by
    rw [WI_op]
    simp only [wpI, wpR_eq, setO_eq]
    cases evR cf fr S r with
    | none => rfl
    | some p => exact wpI_eq Q is _ _
  | .op dst (some (t, w)) r :: is, fr, S => by
    have e : wpI cf (.op dst (some (t, w)) r :: is) fr S Q = OX (gselS (fget fr t) w S (evR cf fr S r)) fun p => wpI cf is (fsetO fr dst p.1) p.2 Q := by
      simp only [wpI, setO_eq]
      split
      · rename_i h
        rw [rV_eq h]
        cases hd : fget fr t <;> try rfl
        · simp only [gsel, gselS]
          split
          · rw [OX_map]
          · rfl
        · rename_i l
          cases l <;> rfl
      · rfl
    rw [e, WI_gd]
    generalize fget fr t = d
    cases d <;> try rfl
    · rename_i x
      simp only [gselS, WG]
      split
      · cases evR cf fr S r with
        | none => rfl
        | some p => exact wpI_eq Q is _ _
      · exact wpI_eq Q is _ _
    · rename_i l
      cases l with
      | nil => exact wpI_eq Q is _ _
      | cons _ _ => rfl
  | .fz t :: is, fr, S => by
    rw [WI_fz]
    simp only [wpI, setF_eq]
    cases fzD (fget fr t) S with
    | none => rfl
    | some p => exact wpI_eq Q is _ _
  | .ck t r :: is, fr, S => by
    have e : wpI cf (.ck t r :: is) fr S Q = OX (evR cf fr S r) fun p => deq p.1 (fget fr t) = true ∧ wpI cf is fr S Q := by
      simp only [wpI]
      split
      · rename_i h
        rw [rV_eq h, OX_map]
      · rfl
    rw [e]
    simp only [WI, evI]
    cases evR cf fr S r with
    | none => rfl
    | some p =>
      simp only [OX]
      rw [wpI_eq Q is]
      by_cases h : deq p.1 (fget fr t) = true
      · simp [h]
      · have : deq p.1 (fget fr t) = false := by simpa using h
        simp [this]

theorem wp_W : ∀ (c : C) (fr : List D) (S : Store) (Q : Ex → List D → Store → Prop), wp cf c fr S Q = W cf c fr S Q
  | .skip, fr, S, Q => by rw [W_skip]; rfl
  | .reg is kl, fr, S, Q => by rw [W_reg, ← wpI_eq]; simp only [wp, killF_eq]
  | .dreg is kl, fr, S, Q => by rw [W_dreg, propext (WD_WI _ is fr S), ← wpI_eq]; simp only [wp, killF_eq]
  | .seq a b, fr, S, Q => by
    rw [W_seq, ← wp_W a]
    have : (fun fr S => W cf b fr S Q) = fun fr S => wp cf b fr S Q := by funext fr S; rw [wp_W b]
    rw [this]; rfl
  | .cond c a b, fr, S, Q => by rw [W_cond, ← wp_W a, ← wp_W b]; rfl
  | .blk id a, fr, S, Q => by rw [W_blk, ← wp_W a]; rfl
  | .loop kl a, fr, S, Q => rfl
  | .exit id, fr, S, Q => by rw [W_exit]; rfl
  | .ret, fr, S, Q => by rw [W_ret]; rfl
  | .bad, fr, S, Q => by simp [wp, W, execL]

end

end Go.Proofs.YtjniafcnjbbomaaGreatDoor.DE

namespace Go.Proofs.YtjniafcnjbbomaaGreatDoor.DE
open Go

/-- Behind a loop: what stands there next. -/
def QS (cf : CallF) (b : C) (Q : Ex → List D → Store → Prop) : Ex → List D → Store → Prop := Qseq (fun fr S => wp cf b fr S Q) Q

@[congr] theorem QS_congr {cf : CallF} {b : C} {Q : Ex → List D → Store → Prop} {ex ex' : Ex} {fr fr' : List D} {S S' : Store} (e : ex = ex') (h : fr = fr') (k : S = S') : QS cf b Q ex fr S = QS cf b Q ex' fr' S' := by rw [e, h, k]
@[simp] theorem QS_normal (cf : CallF) (b : C) (Q : Ex → List D → Store → Prop) (fr : List D) (S : Store) : QS cf b Q .normal fr S = wp cf b fr S Q := (rfl)
@[simp] theorem QS_exit (cf : CallF) (b : C) (Q : Ex → List D → Store → Prop) (id : Nat) (fr : List D) (S : Store) : QS cf b Q (.exit id) fr S = Q (.exit id) fr S := (rfl)
@[simp] theorem QS_ret (cf : CallF) (b : C) (Q : Ex → List D → Store → Prop) (fr : List D) (S : Store) : QS cf b Q .ret fr S = Q .ret fr S := (rfl)
/-- The code, its frame as a list that stands there. -/
def wpS (cf : CallF) (c : C) (fr : List D) (S : Store) (Q : Ex → List D → Store → Prop) : Prop := frc fr fun fr' => wp cf c fr' S Q
theorem wpS_eq (cf : CallF) (c : C) (fr : List D) (S : Store) (Q : Ex → List D → Store → Prop) : wpS cf c fr S Q = wp cf c fr S Q := frc_eq fr _
theorem wpS_of {cf : CallF} {c : C} {fr : List D} {S : Store} {Q : Ex → List D → Store → Prop} {X : Prop} (h : wpS cf c fr S Q = X) : wp cf c fr S Q = X := (wpS_eq cf c fr S Q).symm.trans h
@[congr] theorem wp_congr {cf : CallF} {c : C} {Q : Ex → List D → Store → Prop} {fr fr' : List D} {S S' : Store} (h : fr = fr') (k : S = S') : wp cf c fr S Q = wp cf c fr' S' Q := by rw [h, k]
@[simp] theorem wp_skip (cf : CallF) (Q : Ex → List D → Store → Prop) (fr : List D) (S : Store) : wp cf .skip fr S Q = Q .normal fr S := (rfl)
@[simp] theorem wp_ret (cf : CallF) (Q : Ex → List D → Store → Prop) (fr : List D) (S : Store) : wp cf .ret fr S Q = Q .ret fr S := (rfl)
@[simp] theorem wp_exit (cf : CallF) (Q : Ex → List D → Store → Prop) (id : Nat) (fr : List D) (S : Store) : wp cf (.exit id) fr S Q = Q (.exit id) fr S := (rfl)
attribute [simp] Qseq_normal Qseq_exit Qseq_ret Qblk_normal Qblk_ret Qblk_same Qblk_other

/-- The cell of a result. -/
def ldc (S : Store) (k : Nat) (g : Bool) : D → Option D
  | .bx id o => ldD S k g (.bx id o)
  | _ => none

def finR (fr : List D) (S : Store) : List Res → (List D → Prop) → Prop
  | [], K => K []
  | .t n :: l, K => finR fr S l fun m => K (fget fr n :: m)
  | .cell n k g :: l, K => OX (ldc S k g (fget fr n)) fun d => finR fr S l fun m => K (d :: m)

theorem finR_eq (fr : List D) (S : Store) : ∀ (l : List Res) (K : List D → Prop), finR fr S l K = match resL fr S l with | some m => K m | none => False
  | [], K => rfl
  | .t n :: l, K => by
    simp only [finR, resL, res1, finR_eq fr S l]
    cases resL fr S l <;> rfl
  | .cell n k g :: l, K => by
    have e : res1 fr S (.cell n k g) = ldc S k g (fget fr n) := by
      simp only [res1]
      cases fget fr n <;> rfl
    simp only [finR, resL, e, finR_eq fr S l]
    cases ldc S k g (fget fr n) <;> cases resL fr S l <;> rfl

def FinK (res : List Res) (Post : D → Store → Prop) : Ex → List D → Store → Prop
  | .exit _, _, _ => False
  | _, fr, S => finR fr S res fun l => Post (resD l) S

@[congr] theorem FinK_congr {res : List Res} {Post : D → Store → Prop} {ex ex' : Ex} {fr fr' : List D} {S S' : Store} (e : ex = ex') (h : fr = fr') (k : S = S') : FinK res Post ex fr S = FinK res Post ex' fr' S' := by rw [e, h, k]
@[simp] theorem FinK_ret1 (n : Nat) (Post : D → Store → Prop) (fr : List D) (S : Store) : FinK [.t n] Post .ret fr S = Post (fget fr n) S := (rfl)
@[simp] theorem FinK_ret2 (n m : Nat) (Post : D → Store → Prop) (fr : List D) (S : Store) : FinK [.t n, .t m] Post .ret fr S = Post (.tup [fget fr n, fget fr m]) S := (rfl)
@[simp] theorem FinK_normal (res : List Res) (Post : D → Store → Prop) (fr : List D) (S : Store) : FinK res Post .normal fr S = FinK res Post .ret fr S := (rfl)
@[simp] theorem FinK_cell1 (n k : Nat) (g : Bool) (Post : D → Store → Prop) (fr : List D) (S : Store) : FinK [.cell n k g] Post .ret fr S = OX (ldc S k g (fget fr n)) fun d => Post d S := (rfl)

theorem FinK_Fin (f : Fn) (Post : D → Store → Prop) (ex : Ex) (fr : List D) (S : Store) (h : FinK f.res Post ex fr S) : Fin f Post ex fr S := by
  cases ex with
  | exit id => exact h
  | normal => simp only [FinK, finR_eq] at h; exact h
  | ret => simp only [FinK, finR_eq] at h; exact h

def bxx (k : Nat) (g : Bool) (x : D) (S : Store) (K : D → Store → Prop) : Prop := OX (cellsK k g x) fun cs => K (.bx S.length 0) (.box cs :: S)

theorem stripL_len : ∀ l : List D, (stripL l).length = l.length
  | [] => rfl
  | _ :: l => by simp [stripL, stripL_len l]

section
variable {dp : Nat → Option Fn}
theorem call_s {g : Nat} {f : Fn} {args : List D} {S : Store} {Post : D → Store → Prop} (hg : dp g = some f) (hn : args.length = f.np ∧ f.np ≤ f.nt)
    (h : wp (call dp) f.body (frame0 f args) S (FinK f.res Post)) : ∃ r S', call dp g args S = some (r, S') ∧ Post r S' := by
  rw [wp_W] at h
  exact call_W hg hn (W_mono h (FinK_Fin f Post))

theorem iso_s {g : Nat} {f : Fn} {args : List D} {r : D} (hg : dp g = some f) (hn : args.length = f.np ∧ f.np ≤ f.nt) (ha : noRefL (stripL args) = true) (hr : noRef r = true)
    (h : wp (call dp) f.body (frame0 f (stripL args)) [] (FinK f.res fun d _ => stripT d = r)) : isoCall (call dp) g args = some r := by
  rw [wp_W] at h
  exact iso_W hg hn ha hr (W_mono h (FinK_Fin f _))

theorem iso_x {g : Nat} {f : Fn} {args : List D} {Post : D → Prop} (hg : dp g = some f) (hn : args.length = f.np ∧ f.np ≤ f.nt) (ha : noRefL (stripL args) = true) (hr : ∀ r, Post r → noRef r = true)
    (h : wp (call dp) f.body (frame0 f (stripL args)) [] (FinK f.res fun d _ => Post (stripT d))) : ∃ r, isoCall (call dp) g args = some r ∧ Post r := by
  obtain ⟨d, S', e, hp⟩ := call_s (Post := fun d _ => Post (stripT d)) hg (by rw [stripL_len]; exact hn) h
  exact ⟨_, by simp only [isoCall, ha, if_true, e, hr _ hp], hp⟩
end

/-! Frames. -/
theorem fset_len : ∀ (l : List D) (i : Nat) (v : D), (fset l i v).length = l.length
  | [], _, _ => rfl
  | _ :: _, 0, _ => rfl
  | _ :: l, i + 1, v => by simp [fset, fset_len l i v]
theorem mkf_len (n : Nat) : ∀ l, (mkf n l).length = n
  | [] => by simp [mkf]
  | (i, v) :: l => by rw [mkf, fset_len, mkf_len n l]
theorem fget_fset_same : ∀ (l : List D) (i : Nat) (v : D), i < l.length → fget (fset l i v) i = v
  | [], _, _, h => by simp at h
  | _ :: _, 0, _, _ => rfl
  | _ :: l, i + 1, v, h => by simp only [fset, fget]; exact fget_fset_same l i v (by simpa using h)
theorem fget_fset_ne : ∀ (l : List D) (i j : Nat) (v : D), i ≠ j → fget (fset l i v) j = fget l j
  | [], _, _, _, _ => rfl
  | _ :: _, 0, 0, _, h => absurd rfl h
  | _ :: _, 0, _ + 1, _, _ => rfl
  | _ :: _, _ + 1, 0, _, _ => rfl
  | _ :: l, i + 1, j + 1, v, h => by simp only [fset, fget]; exact fget_fset_ne l i j v (by omega)
@[simp] theorem fget_mkf_hit (n i : Nat) (v : D) (l : List (Nat × D)) (h : i < n) : fget (mkf n ((i, v) :: l)) i = v := by
  rw [mkf]; exact fget_fset_same _ _ _ (by rw [mkf_len]; exact h)
@[simp] theorem fget_mkf_miss (n i j : Nat) (v : D) (l : List (Nat × D)) (h : (i == j) = false) : fget (mkf n ((i, v) :: l)) j = fget (mkf n l) j := by
  rw [mkf]; exact fget_fset_ne _ _ _ _ (by simpa using h)

@[simp] theorem WB_b (c : Bool) (X Y : Prop) : WB (.b c) X Y = if c = true then X else Y := by cases c <;> rfl
@[congr] theorem jn_congr {α : Type} {K : α} {X : α → Prop} : jn K X = jn K X := rfl

end Go.Proofs.YtjniafcnjbbomaaGreatDoor.DE

namespace Go.Proofs.YtjniafcnjbbomaaGreatDoor.DE.V
open Go

/-! The store. -/
theorem sget_lt {α : Type} {e : α} : ∀ {S : List α} {id : Nat}, sget S id = some e → id < S.length
  | [], _, h => by simp [sget] at h
  | x :: S, id, h => by
    simp only [sget] at h
    split at h
    · rename_i q; simp [q]
    · have := sget_lt h; simp; omega

@[simp] theorem sget_top {α : Type} (e : α) (S : List α) : sget (e :: S) S.length = some e := by simp [sget]
theorem sget_push {α : Type} {e x : α} {S : List α} {id : Nat} (h : sget S id = some x) : sget (e :: S) id = some x := by
  have := sget_lt h
  simp only [sget]
  rw [if_neg (by omega)]; exact h
@[simp] theorem sset_top {α : Type} (e x : α) (S : List α) : sset (e :: S) S.length x = x :: S := by simp [sset]
theorem sset_len {α : Type} (x : α) : ∀ (S : List α) (id : Nat), (sset S id x).length = S.length
  | [], _ => rfl
  | e :: S, id => by
    simp only [sset]
    split
    · rfl
    · simp [sset_len x S id]
theorem sget_sset {α : Type} (x : α) : ∀ {S : List α} {id : Nat}, id < S.length → sget (sset S id x) id = some x
  | [], _, h => by simp at h
  | e :: S, id, h => by
    simp only [sset]
    split
    · rename_i q; simp [sget, q]
    · rename_i q
      simp only [sget, sset_len]
      rw [if_neg q]
      exact sget_sset x (by simp at h; omega)
theorem sget_sset_ne {α : Type} (x : α) : ∀ {S : List α} {id j : Nat}, j ≠ id → sget (sset S id x) j = sget S j
  | [], _, _, _ => rfl
  | e :: S, id, j, h => by
    simp only [sset]
    split
    · rename_i q
      subst q
      simp [sget, h]
    · simp only [sget, sset_len]
      rw [sget_sset_ne x h]

/-! A truth value is split where it comes up. -/
@[simp high] theorem OX_b (c : Bool) (K : D → Prop) : OX (some (.b c)) K = if c = true then K (.b true) else K (.b false) := by cases c <;> rfl
/-! Integers of the machine. -/
def in64 (n : Int) : Prop := -9223372036854775808 ≤ n ∧ n ≤ 9223372036854775807
/-! Values. -/
abbrev Row := Int × Int
abbrev Nd := Int × Int × Int

def eRow (r : Row) : List D := [.i .i64 r.1, .i .i64 r.2]
def eNd (x : Nd) : List D := [.i .i64 x.1, .i .i64 x.2.1, .i .i64 x.2.2]
def eRows (nl : Bool) (l : List Row) : D := .sl 2 nl (l.map eRow) .ro
def eNds (nl : Bool) (l : List Nd) : D := .sl 3 nl (l.map eNd) .ro
def eB (nl nl' : Bool) (ord : List Row) (ns : List Nd) (root : Int) : D := .agg [eRows nl ord, eNds nl' ns, .i .i64 root]

def okRow (r : Row) : Prop := in64 r.1 ∧ in64 r.2
theorem noRefL_eRow (r : Row) : noRefL (eRow r) = true := rfl
theorem noRefL_eNd (r : Nd) : noRefL (eNd r) = true := rfl
theorem noRefLL_map {α : Type} (f : α → List D) (h : ∀ x, noRefL (f x) = true) : ∀ l : List α, noRefLL (l.map f) = true
  | [] => rfl
  | x :: l => by simp [noRefLL, h x, noRefLL_map f h l]
@[simp] theorem noRef_eRows (nl : Bool) (l : List Row) : noRef (eRows nl l) = true := by simp [eRows, noRef, noRefLL_map eRow noRefL_eRow l]
@[simp] theorem noRef_eNds (nl : Bool) (l : List Nd) : noRef (eNds nl l) = true := by simp [eNds, noRef, noRefLL_map eNd noRefL_eNd l]
@[simp] theorem noRef_eB (nl nl' : Bool) (ord : List Row) (ns : List Nd) (root : Int) : noRef (eB nl nl' ord ns root) = true := by simp [eB, noRef, noRefL]
@[simp] theorem noRef_row (r : Row) : noRef (.agg (eRow r)) = true := (rfl)
@[simp] theorem noRef_nd (r : Nd) : noRef (.agg (eNd r)) = true := (rfl)
@[simp] theorem strip_eRows (nl : Bool) (l : List Row) : strip (eRows nl l) = eRows nl l := (rfl)
@[simp] theorem strip_eNds (nl : Bool) (l : List Nd) : strip (eNds nl l) = eNds nl l := (rfl)
@[simp] theorem strip_eB (nl nl' : Bool) (ord : List Row) (ns : List Nd) (root : Int) : strip (eB nl nl' ord ns root) = eB nl nl' ord ns root := (rfl)
@[simp] theorem strip_row (r : Row) : strip (.agg (eRow r)) = .agg (eRow r) := (rfl)
@[simp] theorem strip_nd (r : Nd) : strip (.agg (eNd r)) = .agg (eNd r) := (rfl)
@[simp] theorem strip_i (k : IntKind) (n : Int) : strip (.i k n) = .i k n := (rfl)
@[simp] theorem strip_b (n : Bool) : strip (.b n) = .b n := (rfl)
@[simp] theorem stripT_eRows (nl : Bool) (l : List Row) : stripT (eRows nl l) = eRows nl l := (rfl)
@[simp] theorem stripT_eNds (nl : Bool) (l : List Nd) : stripT (eNds nl l) = eNds nl l := (rfl)
@[simp] theorem stripT_eB (nl nl' : Bool) (ord : List Row) (ns : List Nd) (root : Int) : stripT (eB nl nl' ord ns root) = eB nl nl' ord ns root := (rfl)
@[simp] theorem stripT_i (k : IntKind) (n : Int) : stripT (.i k n) = .i k n := (rfl)
@[simp] theorem stripT_b (n : Bool) : stripT (.b n) = .b n := (rfl)
@[simp] theorem noRef_i (k : IntKind) (n : Int) : noRef (.i k n) = true := (rfl)
@[simp] theorem noRef_b (n : Bool) : noRef (.b n) = true := (rfl)

theorem wrap64 {n : Int} (h : in64 n) : IntKind.wrap .i64 n = n := by
  obtain ⟨h1, h2⟩ := h
  rcases Int.lt_or_le n 0 with h | h
  · have e : n % 18446744073709551616 = n + 18446744073709551616 := by omega
    simp [IntKind.wrap, IntKind.signed, IntKind.bits, e]
    omega
  · have e : n % 18446744073709551616 = n := by omega
    simp [IntKind.wrap, IntKind.signed, IntKind.bits, e]
    omega

/-! Slices of structs. -/
theorem lenD_rows (nl : Bool) (l : List Row) : lenD false (eRows nl l) = some (.i .i64 l.length) := by simp [eRows, lenD]
theorem lenD_nds (nl : Bool) (l : List Nd) : lenD false (eNds nl l) = some (.i .i64 l.length) := by simp [eNds, lenD]
theorem iaD_rows {nl : Bool} {l : List Row} {n : Nat} {r : Row} (k : IntKind) (h : l[n]? = some r) : iaD 2 (eRows nl l) (.i k n) = some (.el (eRow r) 0) := by simp [eRows, iaD, h]
@[simp] theorem ldD_el_row (S : Store) (r : Row) : ldD S 2 true (.el (eRow r) 0) = some (.agg (eRow r)) := by simp [ldD, rdK, eRow]
@[simp] theorem ldD_el_nd (S : Store) (r : Nd) : ldD S 3 true (.el (eNd r) 0) = some (.agg (eNd r)) := by simp [ldD, rdK, eNd]

theorem seqL_row (r s : Row) : seqL [.i, .i] (eRow r) (eRow s) = some (decide (r = s)) := by
  have : decide (r = s) = (r.1 == s.1 && r.2 == s.2) := by
    rw [Bool.eq_iff_iff]; simp [Prod.ext_iff]
  simp [eRow, seqL, isSK, seq1, this]
theorem seqL_nd (r s : Nd) : seqL [.i, .i, .i] (eNd r) (eNd s) = some (decide (r = s)) := by
  have : decide (r = s) = (r.1 == s.1 && (r.2.1 == s.2.1 && r.2.2 == s.2.2)) := by
    rw [Bool.eq_iff_iff]; simp [Prod.ext_iff]
  simp [eNd, seqL, isSK, seq1, this]

theorem isKey_row (r : Row) : isKey (.agg [.i, .i]) (.agg (eRow r)) = true := rfl
/-! The operations where the values' shapes are seen. -/
section
variable (k : IntKind) (a b : Int) (S : Store) (cs : List D) (id o p : Nat) (K : D → Store → Prop)
def ldE : Option Ent → Nat → Bool → Nat → Option D
  | some (.box cs), k, g, o => rdK cs o k g
  | _, _, _, _ => none
@[simp] theorem ldD_bx (k : Nat) (g : Bool) : ldD S k g (.bx id o) = ldE (sget S id) k g o := by
  simp only [ldD, ldE]
  cases sget S id with
  | none => rfl
  | some e => cases e <;> rfl
@[simp] theorem ldE_box (k : Nat) (g : Bool) : ldE (some (.box cs)) k g o = rdK cs o k g := (rfl)
@[simp] theorem ldD_el (k : Nat) (g : Bool) : ldD S k g (.el cs o) = rdK cs o k g := (rfl)
@[simp] theorem rdK_one (k : Nat) : rdK cs o k false = cs[o]? := (rfl)
theorem rdK_all {cs : List D} {k : Nat} (h : cs.length = k) : rdK cs 0 k true = some (.agg cs) := by
  subst h; simp [rdK]
@[simp] theorem rdK_row (r : Row) : rdK (eRow r) 0 2 true = some (.agg (eRow r)) := rdK_all rfl
@[simp] theorem rdK_nd (r : Nd) : rdK (eNd r) 0 3 true = some (.agg (eNd r)) := rdK_all rfl
@[simp] theorem rdK_lit1 (x : D) : rdK [x] 0 1 true = some (.agg [x]) := (rfl)
@[simp] theorem rdK_lit2 (x y : D) : rdK [x, y] 0 2 true = some (.agg [x, y]) := (rfl)
@[simp] theorem rdK_lit3 (x y z : D) : rdK [x, y, z] 0 3 true = some (.agg [x, y, z]) := (rfl)
@[simp high] theorem row_0 (r : Row) : (eRow r)[0]? = some (.i .i64 r.1) := (rfl)
@[simp high] theorem row_1 (r : Row) : (eRow r)[1]? = some (.i .i64 r.2) := (rfl)
@[simp high] theorem nd_0 (r : Nd) : (eNd r)[0]? = some (.i .i64 r.1) := (rfl)
@[simp high] theorem nd_1 (r : Nd) : (eNd r)[1]? = some (.i .i64 r.2.1) := (rfl)
@[simp high] theorem nd_2 (r : Nd) : (eNd r)[2]? = some (.i .i64 r.2.2) := (rfl)
@[simp] theorem row_len (r : Row) : (eRow r).length = 2 := (rfl)
@[simp] theorem nd_len (r : Nd) : (eNd r).length = 3 := (rfl)
@[simp] theorem allCell_row (r : Row) : allCell (eRow r) = true := (rfl)
@[simp] theorem allCell_nd (r : Nd) : allCell (eNd r) = true := (rfl)
@[simp] theorem isCell_rows (nl : Bool) (l : List Row) : isCell (eRows nl l) = true := (rfl)
@[simp] theorem isCell_nds (nl : Bool) (l : List Nd) : isCell (eNds nl l) = true := (rfl)
@[simp] theorem isCell_i : isCell (.i k a) = true := (rfl)
@[simp] theorem isCell_b (c : Bool) : isCell (.b c) = true := (rfl)
@[simp] theorem isCell_bx : isCell (.bx id o) = true := (rfl)
@[simp] theorem isCell_mp : isCell (.mp id) = true := (rfl)
@[simp] theorem isCell_fn : isCell (.fn id cs) = true := (rfl)
@[simp] theorem isCell_nilm : isCell .nilm = true := (rfl)
@[simp] theorem isCell_sl (k : Nat) (n : Bool) (xs : List (List D)) (o : Own) : isCell (.sl k n xs o) = true := (rfl)
@[simp] theorem allCell_nil : allCell [] = true := (rfl)
@[simp] theorem allCell_cons (x : D) : allCell (x :: cs) = (isCell x && allCell cs) := (rfl)
@[simp] theorem faD_bx : faD o (.bx id p) = some (.bx id (p + o)) := (rfl)
@[simp] theorem faD_el : faD o (.el cs p) = some (.el cs (p + o)) := (rfl)
theorem cellsK_agg {cs : List D} {k : Nat} (h : cs.length = k) (h' : allCell cs = true) : cellsK k true (.agg cs) = some cs := by simp [cellsK, h, h']
@[simp] theorem cellsK_row (r : Row) : cellsK 2 true (.agg (eRow r)) = some (eRow r) := (rfl)
@[simp] theorem cellsK_nd (r : Nd) : cellsK 3 true (.agg (eNd r)) = some (eNd r) := (rfl)
@[simp] theorem cellsK_eB (nl nl' : Bool) (ord : List Row) (ns : List Nd) (root : Int) : cellsK 3 true (eB nl nl' ord ns root) = some [eRows nl ord, eNds nl' ns, .i .i64 root] := (rfl)
@[simp] theorem cellsK_i (m : Nat) : cellsK m false (.i k a) = some [.i k a] := (rfl)
@[simp] theorem cellsK_b (m : Nat) (c : Bool) : cellsK m false (.b c) = some [.b c] := (rfl)
@[simp] theorem cellsK_bx (m : Nat) : cellsK m false (.bx id o) = some [.bx id o] := (rfl)
@[simp] theorem cellsK_mp (m : Nat) : cellsK m false (.mp id) = some [.mp id] := (rfl)
@[simp] theorem cellsK_fn (m : Nat) : cellsK m false (.fn id cs) = some [.fn id cs] := (rfl)
@[simp] theorem cellsK_rows (m : Nat) (nl : Bool) (l : List Row) : cellsK m false (eRows nl l) = some [eRows nl l] := (rfl)
@[simp] theorem cellsK_nds (m : Nat) (nl : Bool) (l : List Nd) : cellsK m false (eNds nl l) = some [eNds nl l] := (rfl)
@[simp] theorem cellsK_sl (m k : Nat) (n : Bool) (xs : List (List D)) (o : Own) : cellsK m false (.sl k n xs o) = some [.sl k n xs o] := (rfl)
@[simp] theorem cellsK_lit3 (x y z : D) (hx : isCell x = true) (hy : isCell y = true) (hz : isCell z = true) : cellsK 3 true (.agg [x, y, z]) = some [x, y, z] := cellsK_agg rfl (by simp [hx, hy, hz])
@[simp] theorem cellsK_lit2 (x y : D) (hx : isCell x = true) (hy : isCell y = true) : cellsK 2 true (.agg [x, y]) = some [x, y] := cellsK_agg rfl (by simp [hx, hy])
@[simp] theorem bxx_eq (k : Nat) (g : Bool) (x : D) : bxx k g x S K = OX (cellsK k g x) fun cs => K (.bx S.length 0) (.box cs :: S) := (rfl)
@[simp] theorem al_eq (z : List D) : al z S K = K (.bx S.length 0) (.box z :: S) := (rfl)
@[simp] theorem mm_eq : mm S K = K (.mp S.length) (.map [] :: S) := (rfl)
@[simp] theorem bin_geq : binD .geq .num (.i k a) (.i k b) = some (.b (decide (b ≤ a))) := by simp [binD, intOp]
@[simp] theorem bin_leq : binD .leq .num (.i k a) (.i k b) = some (.b (decide (a ≤ b))) := by simp [binD, intOp]
@[simp] theorem bin_lss : binD .lss .num (.i k a) (.i k b) = some (.b (decide (a < b))) := by simp [binD, intOp]
@[simp] theorem bin_gtr : binD .gtr .num (.i k a) (.i k b) = some (.b (decide (b < a))) := by simp [binD, intOp]
@[simp] theorem bin_eql : binD .eql .num (.i k a) (.i k b) = some (.b (decide (a = b))) := by
  simp only [binD, intOp, if_true]; congr 2
@[simp] theorem bin_neq : binD .neq .num (.i k a) (.i k b) = some (.b (!decide (a = b))) := by
  simp only [binD, intOp, if_true]; congr 2
@[simp] theorem bin_add : binD .add .num (.i k a) (.i k b) = some (.i k (k.wrap (a + b))) := by simp [binD, intOp]
@[simp] theorem bin_sub : binD .sub .num (.i k a) (.i k b) = some (.i k (k.wrap (a - b))) := by simp [binD, intOp]
@[simp] theorem bin_beql (c d : Bool) : binD .eql .bool (.b c) (.b d) = some (.b (c == d)) := (rfl)
@[simp] theorem bin_bneq (c d : Bool) : binD .neq .bool (.b c) (.b d) = some (.b (!(c == d))) := (rfl)
@[simp] theorem bin_eql_row (r s : Row) : binD .eql (.agg [.i, .i]) (.agg (eRow r)) (.agg (eRow s)) = some (.b (decide (r = s))) := by simp only [binD, seqL_row, eqD]
@[simp] theorem bin_neq_row (r s : Row) : binD .neq (.agg [.i, .i]) (.agg (eRow r)) (.agg (eRow s)) = some (.b (!decide (r = s))) := by simp only [binD, seqL_row, eqD]
@[simp] theorem bin_eql_nd (r s : Nd) : binD .eql (.agg [.i, .i, .i]) (.agg (eNd r)) (.agg (eNd s)) = some (.b (decide (r = s))) := by simp only [binD, seqL_nd, eqD]
@[simp] theorem bin_neq_nd (r s : Nd) : binD .neq (.agg [.i, .i, .i]) (.agg (eNd r)) (.agg (eNd s)) = some (.b (!decide (r = s))) := by simp only [binD, seqL_nd, eqD]
@[simp] theorem bin_nil_rows (nl : Bool) (l : List Row) (m : Nat) (o : Own) : binD .eql .sl (eRows nl l) (.sl m true [] o) = some (.b nl) := (rfl)
@[simp] theorem bin_nil_nds (nl : Bool) (l : List Nd) (m : Nat) (o : Own) : binD .eql .sl (eNds nl l) (.sl m true [] o) = some (.b nl) := (rfl)
@[simp] theorem bin_mapnil : binD .eql .map (.mp id) .nilm = some (.b false) := (rfl)
@[simp] theorem bin_nilmap : binD .eql .map .nilm .nilm = some (.b true) := (rfl)
@[simp] theorem un_not (c : Bool) : unD .not (.b c) = some (.b (!c)) := (rfl)
@[simp] theorem pick_t (x y : D) : pickD (.b true) x y = some x := (rfl)
@[simp] theorem pick_f (x y : D) : pickD (.b false) x y = some y := (rfl)
@[simp] theorem ext_eq (j : Nat) : extD (.tup cs) j = cs[j]? := (rfl)
@[simp] theorem fnD_fn : fnD (.fn id cs) = some (id, cs) := (rfl)
@[simp] theorem lenD_rows' (nl : Bool) (l : List Row) : lenD false (eRows nl l) = some (.i .i64 l.length) := lenD_rows nl l
@[simp] theorem lenD_nds' (nl : Bool) (l : List Nd) : lenD false (eNds nl l) = some (.i .i64 l.length) := lenD_nds nl l
@[simp] theorem lenD_sl (k : Nat) (n : Bool) (xs : List (List D)) (o : Own) : lenD false (.sl k n xs o) = some (.i .i64 xs.length) := (rfl)
@[simp] theorem cellsV_nil (k : Nat) (g : Bool) : cellsV k g [] = some [] := (rfl)
@[simp] theorem cellsV_nd (r : Nd) : cellsV 3 true [.agg (eNd r)] = some [eNd r] := (rfl)
@[simp] theorem cellsV_row (r : Row) : cellsV 2 true [.agg (eRow r)] = some [eRow r] := (rfl)
@[simp] theorem cellsV_i : cellsV 1 false [.i k a] = some [[.i k a]] := (rfl)
@[simp] theorem cellsV_b (c : Bool) : cellsV 1 false [.b c] = some [[.b c]] := (rfl)
@[simp] theorem bslO_nil (k : Nat) : bslO k [] S = (.sl k false [] .cap0, S) := (rfl)
theorem app_cap0 {k : Nat} {n n' : Bool} {ys : List (List D)} {o : Own} (h : ys.length ≤ maxLenD) : appD k false (.sl k n [] .cap0) (.sl k n' ys o) S = some (if ys = [] then (.sl k n [] .cap0, S) else (.sl k false ys (.tok S.length), .tok true :: S)) := by
  simp only [appD, List.length_nil, Nat.zero_add, h, and_self, true_or, if_true]
  cases ys <;> rfl
theorem app_nil {k : Nat} {n' : Bool} {ys : List (List D)} {o o' : Own} (h : ys.length ≤ maxLenD) (ho : ∀ t, o ≠ .tok t) : appD k false (.sl k true [] o) (.sl k n' ys o') S = some (if ys = [] then (.sl k true [] o, S) else (.sl k false ys (.tok S.length), .tok true :: S)) := by
  simp only [appD, List.length_nil, Nat.zero_add, h, and_self, true_or, if_true]
  cases o with
  | tok t => exact absurd rfl (ho t)
  | ro => cases ys <;> rfl
  | cap0 => cases ys <;> rfl
theorem app_tok {k : Nat} {n' : Bool} {xs ys : List (List D)} {o' : Own} {t : Nat} (h : xs.length + ys.length ≤ maxLenD) (hs : sget S t = some (.tok true)) : appD k false (.sl k false xs (.tok t)) (.sl k n' ys o') S = some (.sl k false (xs ++ ys) (.tok S.length), .tok true :: sset S t (.tok false)) := by
  simp only [appD, h, and_self, true_or, if_true, hs]
  rfl
def stE : Option Ent → Store → Nat → Nat → Bool → Nat → D → Option Store
  | some (.box cs), S, id, k, g, o, v => match cellsK k g v with
    | some l => if o + k ≤ cs.length then some (sset S id (.box (splice cs o l))) else none
    | none => none
  | _, _, _, _, _, _, _ => none
@[simp] theorem stD_bx (k : Nat) (g : Bool) (v : D) : stD S k g (.bx id o) v = stE (sget S id) S id k g o v := by
  simp only [stD, stE]
  cases sget S id with
  | none => rfl
  | some e => cases e <;> rfl
@[simp] theorem stE_box' (k : Nat) (g : Bool) (v : D) : stE (some (.box cs)) S id k g o v = (cellsK k g v).bind fun l => if o + k ≤ cs.length then some (sset S id (.box (splice cs o l))) else none := by
  simp only [stE]
  cases cellsK k g v <;> rfl
@[simp] theorem splice_nil : splice cs o [] = cs := (rfl)
@[simp] theorem splice_cons (x : D) (l : List D) : splice cs o (x :: l) = splice (fset cs o x) (o + 1) l := (rfl)
@[simp] theorem fset_zero (x y : D) : fset (x :: cs) 0 y = y :: cs := (rfl)
@[simp] theorem fset_succ (x y : D) (n : Nat) : fset (x :: cs) (n + 1) y = x :: fset cs n y := (rfl)
@[simp] theorem splice_row (x y : D) (r : Row) : splice [x, y] 0 (eRow r) = eRow r := (rfl)
@[simp] theorem splice_nd (x y z : D) (r : Nd) : splice [x, y, z] 0 (eNd r) = eNd r := (rfl)
theorem cellsK_cell {v : D} (h : isCell v = true) (k : Nat) : cellsK k false v = some [v] := by simp [cellsK, h]
@[simp high] theorem stE1_0 (x v : D) (h : isCell v = true) : stE (some (.box [x])) S id 1 false 0 v = some (sset S id (.box [v])) := by simp [cellsK_cell h]
@[simp high] theorem stE2_0 (x y v : D) (h : isCell v = true) : stE (some (.box [x, y])) S id 1 false 0 v = some (sset S id (.box [v, y])) := by simp [cellsK_cell h]
@[simp high] theorem stE2_1 (x y v : D) (h : isCell v = true) : stE (some (.box [x, y])) S id 1 false 1 v = some (sset S id (.box [x, v])) := by simp [cellsK_cell h]
@[simp high] theorem stE3_0 (x y z v : D) (h : isCell v = true) : stE (some (.box [x, y, z])) S id 1 false 0 v = some (sset S id (.box [v, y, z])) := by simp [cellsK_cell h]
@[simp high] theorem stE3_1 (x y z v : D) (h : isCell v = true) : stE (some (.box [x, y, z])) S id 1 false 1 v = some (sset S id (.box [x, v, z])) := by simp [cellsK_cell h]
@[simp high] theorem stE3_2 (x y z v : D) (h : isCell v = true) : stE (some (.box [x, y, z])) S id 1 false 2 v = some (sset S id (.box [x, y, v])) := by simp [cellsK_cell h]
@[simp] theorem stripL_nil : stripL [] = [] := (rfl)
@[simp] theorem stripL_cons (x : D) : stripL (x :: cs) = strip x :: stripL cs := (rfl)
@[simp] theorem stripT_tup : stripT (.tup cs) = .tup (stripL cs) := (rfl)
@[simp] theorem sget_cons (e : Ent) : sget (e :: S) id = if id = S.length then some e else sget S id := (rfl)
@[simp] theorem sset_cons (e x : Ent) : sset (e :: S) id x = if id = S.length then x :: S else e :: sset S id x := (rfl)
end

/-! Equality of values: each is equal to itself. -/
theorem oeq_self (o : Own) : oeq o o = true := by cases o <;> simp [oeq]
mutual
theorem deq_self : ∀ d : D, deq d d = true
  | .top => rfl
  | .b x => by simp [deq]
  | .i k n => by simp [deq]
  | .s l => by simp [deq]
  | .sl k n xs o => by simp [deq, oeq_self, deqLL_self xs]
  | .agg cs => by simp [deq, deqL_self cs]
  | .tup cs => by simp [deq, deqL_self cs]
  | .bx a b => by simp [deq]
  | .el cs o => by simp [deq, deqL_self cs]
  | .ar a b c d => by simp [deq]
  | .nilp => rfl
  | .nilm => rfl
  | .mp a => by simp [deq]
  | .fn g cs => by simp [deq, deqL_self cs]
theorem deqL_self : ∀ l : List D, deqL l l = true
  | [] => rfl
  | x :: l => by simp [deqL, deq_self x, deqL_self l]
theorem deqLL_self : ∀ l : List (List D), deqLL l l = true
  | [] => rfl
  | x :: l => by simp [deqLL, deqL_self x, deqLL_self l]
end
attribute [simp] deq_self

/-! A map whose values stand in a list of pairs, by the texts of the keys. -/
def assoc {α β : Type} [DecidableEq α] (a : α) : List (α × β) → Option β
  | [] => none
  | (k, v) :: es => if a = k then some v else assoc a es

theorem assoc_none {α β : Type} [DecidableEq α] {a : α} : ∀ {es : List (α × β)}, assoc a es = none ↔ ∀ p, p ∈ es → p.1 ≠ a
  | [] => by simp [assoc]
  | (k, v) :: es => by
    simp only [assoc]
    split
    · rename_i h
      simp only [List.mem_cons, reduceCtorEq, false_iff]
      intro q
      exact q (k, v) (Or.inl rfl) h.symm
    · rename_i h
      rw [assoc_none]
      constructor
      · intro q p hp
        rcases List.mem_cons.1 hp with hp | hp
        · subst hp; exact fun e => h e.symm
        · exact q p hp
      · exact fun q p hp => q p (List.mem_cons_of_mem _ hp)

/-- The kind of key by which a map is read: ek is injective to the eyes of 'keq'. -/
def KeyE {α : Type} [DecidableEq α] (kk : KK) (ek : α → D) : Prop := ∀ a b, keq kk (ek a) (ek b) = some (decide (a = b))

theorem keyE_row : KeyE (.agg [.i, .i]) (fun r : Row => .agg (eRow r)) := fun a b => by simp only [keq]; exact seqL_row a b
section
variable {α β : Type} [DecidableEq α] {kk : KK} {ek : α → D} {ev : β → D}
def eMap (ek : α → D) (ev : β → D) (es : List (α × β)) : List (D × D) := es.map fun p => (ek p.1, ev p.2)

theorem lkD_map (h : KeyE kk ek) (a : α) : ∀ es : List (α × β), lkD kk (ek a) (eMap ek ev es) = some ((assoc a es).map ev)
  | [] => rfl
  | (k, v) :: es => by
    simp only [eMap, List.map_cons, lkD, h a k, assoc]
    by_cases e : a = k
    · simp [e]
    · simp only [e, decide_false, if_false]
      exact lkD_map h a es

theorem muD_new (h : KeyE kk ek) (a : α) (b : β) : ∀ es : List (α × β), assoc a es = none → muD kk (ek a) (ev b) (eMap ek ev es) = some (eMap ek ev (es ++ [(a, b)]))
  | [], _ => rfl
  | (k, v) :: es, q => by
    simp only [assoc] at q
    split at q
    · cases q
    · rename_i e
      have := muD_new h a b es q
      simp only [eMap] at this
      simp only [eMap, List.map_cons, muD, h a k, e, decide_false, this, List.cons_append, Option.map_some]

theorem lkD'_mp (h : KeyE kk ek) {a : α} (hk : isKey kk (ek a) = true) {S : Store} {id : Nat} {es : List (α × β)} (hS : sget S id = some (.map (eMap ek ev es))) (ok : Bool) (z : D) :
    lkD' kk ok z S (.mp id) (ek a) = some (okD ok z ((assoc a es).map ev)) := by
  simp only [lkD', hk, if_true, hS, lkD_map h, Option.map_some]

theorem muD'_new (h : KeyE kk ek) {a : α} {b : β} (hk : isKey kk (ek a) = true) {S : Store} {id : Nat} {es : List (α × β)} (hS : sget S id = some (.map (eMap ek ev es))) (ha : assoc a es = none) :
    muD' kk S (.mp id) (ek a) (ev b) = some (sset S id (.map (eMap ek ev (es ++ [(a, b)])))) := by
  simp only [muD', hk, if_true, hS, muD_new h a b es ha, Option.map_some]
end

@[simp] theorem okD_tn (z : D) : okD true z none = .tup [z, .b false] := (rfl)
@[simp] theorem okD_ts (z v : D) : okD true z (some v) = .tup [v, .b true] := (rfl)
@[simp] theorem okD_fn (z : D) : okD false z none = z := (rfl)
@[simp] theorem okD_fs (z v : D) : okD false z (some v) = v := (rfl)

end Go.Proofs.YtjniafcnjbbomaaGreatDoor.DE.V

namespace Go.Proofs.YtjniafcnjbbomaaGreatDoor.NL

abbrev B : Nat := 4294967296

def val : List Nat → Nat
  | [] => 0
  | x :: l => x + B * val l

def Lim (l : List Nat) : Prop := ∀ x, x ∈ l → x < B
def Can (l : List Nat) : Prop := Lim l ∧ l.getLast? ≠ some 0

theorem val_append : ∀ (a b : List Nat), val (a ++ b) = val a + B ^ a.length * val b
  | [], b => by simp [val]
  | x :: a, b => by
    simp only [List.cons_append, val, val_append a b, List.length_cons, Nat.pow_succ, Nat.mul_add]
    rw [Nat.mul_comm (B ^ a.length) B, Nat.mul_assoc, Nat.add_assoc]

theorem Lim.cons {x : Nat} {l : List Nat} (h : Lim (x :: l)) : x < B ∧ Lim l := ⟨h x (by simp), fun y hy => h y (by simp [hy])⟩

theorem val_lt : ∀ {l : List Nat}, Lim l → val l < B ^ l.length
  | [], _ => by simp [val]
  | x :: l, h => by
    have h1 := h.cons.1
    have h2 := val_lt h.cons.2
    simp only [val, List.length_cons, Nat.pow_succ]
    have h3 : B * (val l + 1) ≤ B * B ^ l.length := Nat.mul_le_mul_left B h2
    rw [Nat.mul_add, Nat.mul_one] at h3
    rw [Nat.mul_comm (B ^ l.length) B]
    omega

/-! The limbs without leading zeros. -/
def trim : List Nat → List Nat
  | [] => []
  | x :: l => if trim l = [] ∧ x = 0 then [] else x :: trim l

theorem Can.cons {x : Nat} {l : List Nat} (h : Can (x :: l)) : x < B ∧ Can l := by
  refine ⟨h.1.cons.1, h.1.cons.2, ?_⟩
  cases l with
  | nil => simp
  | cons y m => have := h.2; rwa [List.getLast?_cons_cons] at this

theorem Can.pos : ∀ {l : List Nat}, Can l → l ≠ [] → 0 < val l
  | [], _, h => absurd rfl h
  | [x], h, _ => by
    have := h.2
    simp only [List.getLast?_singleton, ne_eq, Option.some.injEq] at this
    simp only [val]; omega
  | x :: y :: l, h, _ => by
    have := Can.pos h.cons.2 (by simp)
    simp only [val] at this ⊢
    have h2 : 0 < B * (y + B * val l) := Nat.mul_pos (by decide) this
    omega

theorem can_inj : ∀ {a b : List Nat}, Can a → Can b → val a = val b → a = b
  | [], [], _, _, _ => rfl
  | [], y :: b, _, hb, e => by have := hb.pos (by simp); simp only [val] at e this; omega
  | x :: a, [], ha, _, e => by have := ha.pos (by simp); simp only [val] at e this; omega
  | x :: a, y :: b, ha, hb, e => by
    have h1 := ha.cons.1
    have h2 := hb.cons.1
    simp only [val] at e
    have hx : x = y := by
      have := congrArg (· % B) e
      simp only [Nat.add_mul_mod_self_left] at this
      rwa [Nat.mod_eq_of_lt h1, Nat.mod_eq_of_lt h2] at this
    subst hx
    have hv : val a = val b := Nat.eq_of_mul_eq_mul_left (by decide : 0 < B) (by omega)
    rw [can_inj ha.cons.2 hb.cons.2 hv]

/-! One step of the division. d = D2 * P + dl, U = U3 * P + ul. -/
section
variable {β t nx a b c P dl ul d U : Nat}

/-- The quotient is not greater than that of the leading limbs. -/
theorem q_le (hd : d = (t * β + nx) * P + dl) (hU : U = ((a * β + b) * β + c) * P + ul) (hul : ul < P) (q : Nat) (hq : q * d ≤ U) : q * (t * β + nx) ≤ (a * β + b) * β + c := by
  generalize t * β + nx = D at *
  generalize (a * β + b) * β + c = V at *
  subst hd hU
  have h1 : q * D * P < (V + 1) * P := by
    rw [Nat.add_mul, Nat.one_mul]
    have : q * (D * P + dl) = q * D * P + q * dl := by rw [Nat.mul_add, Nat.mul_assoc]
    rw [this] at hq
    omega
  exact Nat.lt_succ_iff.1 (Nat.lt_of_mul_lt_mul_right h1)

/-- A guess that fits the leading limbs is at most one too great. -/
theorem guess_le (hd : d = (t * β + nx) * P + dl) (hU : U = ((a * β + b) * β + c) * P + ul) (hdl : dl < P) (g : Nat) (hg : g * (t * β + nx) ≤ (a * β + b) * β + c) (hgD : g ≤ t * β + nx + 1) (h1 : 1 ≤ g) : (g - 1) * d ≤ U := by
  generalize t * β + nx = D at *
  generalize (a * β + b) * β + c = V at *
  obtain ⟨k, rfl⟩ : ∃ k, g = k + 1 := ⟨g - 1, by omega⟩
  simp only [Nat.add_sub_cancel]
  subst hd hU
  have h2 : k * (D * P + dl) ≤ k * ((D + 1) * P) := Nat.mul_le_mul_left k (by rw [Nat.add_mul, Nat.one_mul]; omega)
  have h3 : k * (D + 1) ≤ V := by
    have : (k + 1) * D = k * D + D := by rw [Nat.add_mul, Nat.one_mul]
    rw [Nat.mul_add, Nat.mul_one]
    omega
  calc k * (D * P + dl) ≤ k * ((D + 1) * P) := h2
    _ = k * (D + 1) * P := by rw [Nat.mul_assoc]
    _ ≤ V * P := Nat.mul_le_mul_right P h3
    _ ≤ V * P + ul := Nat.le_add_right _ _

/-- A guess that is too great for the two leading limbs is too great. -/
theorem guess_gt {g r q : Nat} (hh : g * t + r = a * β + b) (hq : q * (t * β + nx) ≤ (a * β + b) * β + c) (h : r * β + c < g * nx) : q < g := by
  have h1 : (a * β + b) * β + c < g * (t * β + nx) := by
    rw [← hh, Nat.add_mul, Nat.mul_add]
    have : g * t * β = g * (t * β) := Nat.mul_assoc _ _ _
    omega
  exact Nat.lt_of_mul_lt_mul_right (Nat.lt_of_le_of_lt hq h1)

/-- A guess whose test fails fits the leading limbs. -/
theorem guess_fit {g r : Nat} (hh : g * t + r = a * β + b) (h : g * nx ≤ r * β + c) : g * (t * β + nx) ≤ (a * β + b) * β + c := by
  rw [← hh, Nat.add_mul, Nat.mul_add]
  have : g * t * β = g * (t * β) := Nat.mul_assoc _ _ _
  omega

/-- The first guess is not too small. -/
theorem guess_first {q : Nat} (hβ : c < β) (hq : q * (t * β + nx) ≤ (a * β + b) * β + c) : q * t ≤ a * β + b := by
  have h1 : q * t * β < (a * β + b + 1) * β := by
    rw [Nat.mul_add] at hq
    have e1 : q * (t * β) = q * t * β := (Nat.mul_assoc _ _ _).symm
    have e2 : (a * β + b + 1) * β = (a * β + b) * β + β := by rw [Nat.add_mul (a * β + b), Nat.one_mul]
    omega
  exact Nat.lt_succ_iff.1 (Nat.lt_of_mul_lt_mul_right h1)
end

end Go.Proofs.YtjniafcnjbbomaaGreatDoor.NL

namespace Go.Proofs.YtjniafcnjbbomaaGreatDoor.NL

theorem B_pos : 0 < B := by decide
theorem Bp (k : Nat) : 0 < B ^ k := Nat.pow_pos B_pos

/-- The limbs of a number. -/
def ofN (n : Nat) : List Nat := if _h : n = 0 then [] else n % B :: ofN (n / B)
termination_by n
decreasing_by exact Nat.div_lt_self (Nat.pos_of_ne_zero _h) (show 1 < B by decide)

theorem ofN_zero : ofN 0 = [] := by rw [ofN]; simp
theorem ofN_pos {n : Nat} (h : n ≠ 0) : ofN n = n % B :: ofN (n / B) := by rw [ofN]; simp [h]

theorem val_ofN (n : Nat) : val (ofN n) = n := by
  induction n using Nat.strongRecOn with
  | _ n ih =>
    by_cases h : n = 0
    · subst h; rw [ofN_zero]; rfl
    · rw [ofN_pos h, val, ih _ (Nat.div_lt_self (Nat.pos_of_ne_zero h) (show 1 < B by decide))]
      exact Nat.mod_add_div n B

theorem lim_ofN (n : Nat) : Lim (ofN n) := by
  induction n using Nat.strongRecOn with
  | _ n ih =>
    by_cases h : n = 0
    · subst h; rw [ofN_zero]; intro x hx; cases hx
    · rw [ofN_pos h]
      intro x hx
      rcases List.mem_cons.1 hx with hx | hx
      · subst hx; exact Nat.mod_lt _ B_pos
      · exact ih _ (Nat.div_lt_self (Nat.pos_of_ne_zero h) (show 1 < B by decide)) x hx

theorem last_ofN (n : Nat) : (ofN n).getLast? ≠ some 0 := by
  induction n using Nat.strongRecOn with
  | _ n ih =>
    by_cases h : n = 0
    · subst h; rw [ofN_zero]; simp
    · rw [ofN_pos h]
      by_cases h2 : n / B = 0
      · rw [h2, ofN_zero]
        have : n % B = n := Nat.mod_eq_of_lt ((Nat.div_eq_zero_iff_lt B_pos).1 h2)
        simp [this, h]
      · have := ih _ (Nat.div_lt_self (Nat.pos_of_ne_zero h) (show 1 < B by decide))
        rw [ofN_pos h2] at this ⊢
        rw [List.getLast?_cons_cons]; exact this

theorem can_ofN (n : Nat) : Can (ofN n) := ⟨lim_ofN n, last_ofN n⟩
theorem ofN_val {l : List Nat} (h : Can l) : ofN (val l) = l := can_inj (can_ofN _) h (val_ofN _)
theorem ofN_inj {n m : Nat} (h : ofN n = ofN m) : n = m := by rw [← val_ofN n, h, val_ofN]
theorem ofN_nil {n : Nat} : ofN n = [] ↔ n = 0 := ⟨fun h => ofN_inj (h.trans ofN_zero.symm), fun h => by rw [h, ofN_zero]⟩
theorem ofN_one : ofN 1 = [1] := by
  rw [ofN_pos (by decide), show 1 / B = 0 from rfl, ofN_zero, show 1 % B = 1 from rfl]
/-- A number's limbs are at most so many. -/
theorem len_ofN {n k : Nat} (h : n < B ^ k) : (ofN n).length ≤ k := by
  rcases Nat.lt_or_ge k (ofN n).length with q | q
  · have hc := can_ofN n
    have hne : ofN n ≠ [] := by intro e; rw [e] at q; simp at q
    obtain ⟨x, hx⟩ : ∃ x, (ofN n).getLast? = some x := by
      cases hh : (ofN n).getLast? with
      | none => exact absurd (List.getLast?_eq_none_iff.1 hh) hne
      | some x => exact ⟨x, rfl⟩
    obtain ⟨ys, e⟩ := List.getLast?_eq_some_iff.1 hx
    have hx0 : x ≠ 0 := by rintro rfl; exact hc.2 hx
    have hv : n = val (ys ++ [x]) := by rw [← e, val_ofN]
    rw [val_append] at hv
    have hl : (ofN n).length = ys.length + 1 := by rw [e]; simp
    have hp : B ^ k ≤ B ^ ys.length := Nat.pow_le_pow_right B_pos (by omega)
    have : B ^ ys.length * 1 ≤ B ^ ys.length * val [x] := Nat.mul_le_mul_left _ (by simp only [val]; omega)
    omega
  · exact q

theorem lt_of_len {n k : Nat} (h : (ofN n).length ≤ k) : n < B ^ k := by
  have := val_lt (lim_ofN n)
  rw [val_ofN] at this
  exact Nat.lt_of_lt_of_le this (Nat.pow_le_pow_right B_pos h)

/-! Digits. -/
def dg (l : List Nat) (i : Nat) : Nat := (l[i]?).getD 0
theorem dg_get {l : List Nat} {i x : Nat} (h : l[i]? = some x) : dg l i = x := by simp [dg, h]
theorem dg_ge {l : List Nat} {i : Nat} (h : l.length ≤ i) : dg l i = 0 := by simp [dg, List.getElem?_eq_none h]
theorem get_dg {l : List Nat} {i : Nat} (h : i < l.length) : l[i]? = some (dg l i) := by simp [dg, List.getElem?_eq_getElem h]
theorem dg_lt {l : List Nat} (h : Lim l) (i : Nat) : dg l i < B := by
  rcases Nat.lt_or_ge i l.length with q | q
  · exact h _ (List.mem_of_getElem? (get_dg q))
  · rw [dg_ge q]; exact B_pos

theorem vt_succ (l : List Nat) (k : Nat) : val (l.take (k + 1)) = val (l.take k) + B ^ k * dg l k := by
  rcases Nat.lt_or_ge k l.length with q | q
  · rw [List.take_add_one, get_dg q, val_append]
    simp [val, Nat.min_eq_left (Nat.le_of_lt q)]
  · rw [dg_ge q, List.take_of_length_le q, List.take_of_length_le (by omega)]; simp
theorem vt_full {l : List Nat} {k : Nat} (h : l.length ≤ k) : val (l.take k) = val l := by rw [List.take_of_length_le h]

theorem val_set : ∀ {l : List Nat} {i : Nat} (x : Nat), i < l.length → val (l.set i x) + B ^ i * dg l i = val l + B ^ i * x
  | [], _, _, h => by simp at h
  | y :: l, 0, x, _ => by simp [val, dg]; omega
  | y :: l, i + 1, x, h => by
    have := val_set (l := l) (i := i) x (by simpa using h)
    have e : dg (y :: l) (i + 1) = dg l i := by simp [dg]
    rw [e]
    simp only [List.set_cons_succ, val, Nat.pow_succ]
    have e1 : B ^ i * B * dg l i = B * (B ^ i * dg l i) := by rw [Nat.mul_comm (B ^ i) B, Nat.mul_assoc]
    have e2 : B ^ i * B * x = B * (B ^ i * x) := by rw [Nat.mul_comm (B ^ i) B, Nat.mul_assoc]
    rw [e1, e2]
    have := congrArg (B * ·) this
    simp only [Nat.mul_add] at this
    omega

theorem val_set0 {l : List Nat} {i : Nat} (x : Nat) (h : i < l.length) (h0 : dg l i = 0) : val (l.set i x) = val l + B ^ i * x := by
  have := val_set x h
  rw [h0] at this; simpa using this

theorem lim_set {l : List Nat} {i x : Nat} (h : Lim l) (hx : x < B) : Lim (l.set i x) := by
  intro y hy
  rcases List.mem_or_eq_of_mem_set hy with q | q
  · exact h y q
  · rw [q]; exact hx

theorem dg_set_ne {l : List Nat} {i j x : Nat} (h : i ≠ j) : dg (l.set i x) j = dg l j := by simp [dg, List.getElem?_set_ne h]
theorem dg_set {l : List Nat} {i x : Nat} (h : i < l.length) : dg (l.set i x) i = x := by simp [dg, h]

theorem val_zeros : ∀ n, val (List.replicate n 0) = 0
  | 0 => rfl
  | n + 1 => by simp [List.replicate_succ, val, val_zeros n]
theorem lim_zeros (n : Nat) : Lim (List.replicate n 0) := by intro x hx; rw [(List.mem_replicate.1 hx).2]; exact B_pos
theorem dg_zeros (n i : Nat) : dg (List.replicate n 0) i = 0 := by
  rcases Nat.lt_or_ge i n with q | q
  · exact dg_get (by simp [q])
  · exact dg_ge (by simpa using q)

theorem lim_snoc {l : List Nat} {x : Nat} (h : Lim l) (hx : x < B) : Lim (l ++ [x]) := by
  intro y hy
  rcases List.mem_append.1 hy with q | q
  · exact h y q
  · rw [List.mem_singleton.1 q]; exact hx
theorem lim_take {l : List Nat} (k : Nat) (h : Lim l) : Lim (l.take k) := fun x hx => h x (List.mem_of_mem_take hx)
theorem lim_drop {l : List Nat} (k : Nat) (h : Lim l) : Lim (l.drop k) := fun x hx => h x (List.mem_of_mem_drop hx)
theorem lim_app {a b : List Nat} (h : Lim a) (k : Lim b) : Lim (a ++ b) := by
  intro y hy
  rcases List.mem_append.1 hy with q | q
  · exact h y q
  · exact k y q
theorem val_snoc (l : List Nat) (x : Nat) : val (l ++ [x]) = val l + B ^ l.length * x := by rw [val_append]; simp [val]

/-! Comparisons. -/
theorem lt_len {a b : List Nat} (ha : Lim a) (hb : Can b) (h : a.length < b.length) : val a < val b := by
  have h1 := val_lt ha
  have h2 : b.length ≤ (ofN (val b)).length := by rw [ofN_val hb]; exact Nat.le_refl _
  rcases Nat.lt_or_ge (val b) (B ^ a.length) with q | q
  · have := len_ofN q; omega
  · omega

theorem lt_at {a b : List Nat} {k x y : Nat} (ha : Lim a) (hd : a.drop (k + 1) = b.drop (k + 1)) (hx : a[k]? = some x) (hy : b[k]? = some y) (h : x < y) : val a < val b := by
  have e1 : a = a.take k ++ (x :: a.drop (k + 1)) := by
    have : a.drop k = x :: a.drop (k + 1) := by
      obtain ⟨hk, rfl⟩ := List.getElem?_eq_some_iff.1 hx
      exact List.drop_eq_getElem_cons hk
    rw [← this, List.take_append_drop]
  have e2 : b = b.take k ++ (y :: b.drop (k + 1)) := by
    have : b.drop k = y :: b.drop (k + 1) := by
      obtain ⟨hk, rfl⟩ := List.getElem?_eq_some_iff.1 hy
      exact List.drop_eq_getElem_cons hk
    rw [← this, List.take_append_drop]
  have hka : k < a.length := (List.getElem?_eq_some_iff.1 hx).1
  have hkb : k < b.length := (List.getElem?_eq_some_iff.1 hy).1
  have v1 := congrArg val e1
  have v2 := congrArg val e2
  rw [val_append] at v1 v2
  simp only [val, List.length_take, Nat.min_eq_left (Nat.le_of_lt hka), Nat.min_eq_left (Nat.le_of_lt hkb), ← hd] at v1 v2
  have l1 := val_lt (lim_take k ha)
  rw [List.length_take, Nat.min_eq_left (Nat.le_of_lt hka)] at l1
  have l2 : B ^ k * (x + 1 + B * val (a.drop (k + 1))) ≤ B ^ k * (y + B * val (a.drop (k + 1))) := Nat.mul_le_mul_left _ (by omega)
  have e : B ^ k * (x + 1 + B * val (a.drop (k + 1))) = B ^ k * (x + B * val (a.drop (k + 1))) + B ^ k := by
    rw [show x + 1 + B * val (a.drop (k + 1)) = (x + B * val (a.drop (k + 1))) + 1 by omega, Nat.mul_add, Nat.mul_one]
  omega

/-- The sign of a comparison. -/
def sgn (x y : Nat) : Int := if x < y then -1 else if x = y then 0 else 1

end Go.Proofs.YtjniafcnjbbomaaGreatDoor.NL

namespace Go.Proofs.YtjniafcnjbbomaaGreatDoor.NL

theorem top2 {l : List Nat} {m : Nat} (h : l.length = m + 2) : val l = (dg l (m + 1) * B + dg l m) * B ^ m + val (l.take m) := by
  have e := vt_full (l := l) (k := m + 2) (by omega)
  rw [← e, vt_succ, vt_succ]
  simp only [Nat.pow_succ]
  clear e
  generalize dg l (m + 1) = x
  generalize dg l m = y
  generalize B ^ m = p
  generalize B = b
  grind

theorem top3 {l : List Nat} {m : Nat} (h : l.length = m + 3) : val l = ((dg l (m + 2) * B + dg l (m + 1)) * B + dg l m) * B ^ m + val (l.take m) := by
  have e := vt_full (l := l) (k := m + 3) (by omega)
  rw [← e, vt_succ, vt_succ, vt_succ]
  simp only [Nat.pow_succ]
  clear e
  generalize dg l (m + 2) = x
  generalize dg l (m + 1) = y
  generalize dg l m = z
  generalize B ^ m = p
  generalize B = b
  grind

/-! The guess: d the divisor (m + 2 limbs, the top one at least half the base), w the window (m + 3 limbs), smaller than d times the base. -/
structure Win (d w : List Nat) (m : Nat) : Prop where
  ld : d.length = m + 2
  lw : w.length = m + 3
  hd : Lim d
  hw : Lim w
  top : B ≤ 2 * dg d (m + 1)
  lt : val w < val d * B

section
variable {d w : List Nat} {m : Nat}

theorem Win.eD (h : Win d w m) : val d = (dg d (m + 1) * B + dg d m) * B ^ m + val (d.take m) := top2 h.ld
theorem Win.eW (h : Win d w m) : val w = ((dg w (m + 2) * B + dg w (m + 1)) * B + dg w m) * B ^ m + val (w.take m) := top3 h.lw
theorem Win.dl (h : Win d w m) : val (d.take m) < B ^ m := by
  have := val_lt (lim_take m h.hd)
  rwa [List.length_take, Nat.min_eq_left (by have := h.ld; omega)] at this
theorem Win.wl (h : Win d w m) : val (w.take m) < B ^ m := by
  have := val_lt (lim_take m h.hw)
  rwa [List.length_take, Nat.min_eq_left (by have := h.lw; omega)] at this
theorem Win.tpos (h : Win d w m) : 0 < dg d (m + 1) := by have := h.top; unfold B at this; omega
theorem Win.dpos (h : Win d w m) : 0 < val d := by
  rw [h.eD]
  have := Nat.mul_pos (Nat.mul_pos h.tpos B_pos) (Bp m)
  rw [Nat.add_mul]; omega
theorem Win.qd (_ : Win d w m) : val w / val d * val d ≤ val w := Nat.div_mul_le_self _ _
theorem Win.qB (h : Win d w m) : val w / val d < B := Nat.div_lt_of_lt_mul h.lt

/-- The window's top limb is at most the divisor's. -/
theorem Win.a_le (h : Win d w m) : dg w (m + 2) ≤ dg d (m + 1) := by
  rcases Nat.lt_or_ge (dg d (m + 1)) (dg w (m + 2)) with q | q
  · exfalso
    have hl := h.lt
    have h1 : val d < (dg d (m + 1) + 1) * B ^ (m + 1) := by
      have e := vt_full (l := d) (k := m + 2) (by have := h.ld; omega)
      rw [← e, vt_succ]
      have := val_lt (lim_take (m + 1) h.hd)
      rw [List.length_take, Nat.min_eq_left (by have := h.ld; omega)] at this
      rw [Nat.add_mul, Nat.one_mul, Nat.mul_comm (dg d (m + 1))]
      omega
    have h2 : dg w (m + 2) * B ^ (m + 2) ≤ val w := by
      have e := vt_full (l := w) (k := m + 3) (by have := h.lw; omega)
      rw [← e, vt_succ, Nat.mul_comm]
      omega
    have h3 : (dg d (m + 1) + 1) * B ^ (m + 2) ≤ dg w (m + 2) * B ^ (m + 2) := Nat.mul_le_mul_right _ q
    have h4 : val d * B < (dg d (m + 1) + 1) * B ^ (m + 1) * B := Nat.mul_lt_mul_of_pos_right h1 B_pos
    rw [Nat.mul_assoc, ← Nat.pow_succ] at h4
    have h5 : (m + 1).succ = m + 2 := rfl
    rw [h5] at h4
    omega
  · exact q

/-- The loop of the guess: g and the rest r. -/
structure Gs (d w : List Nat) (m g r : Nat) : Prop where
  eq : g * dg d (m + 1) + r = dg w (m + 2) * B + dg w (m + 1)
  le : val w / val d ≤ g

theorem gs_first (h : Win d w m) : Gs d w m ((dg w (m + 2) * B + dg w (m + 1)) / dg d (m + 1)) ((dg w (m + 2) * B + dg w (m + 1)) % dg d (m + 1)) := by
  refine ⟨?_, ?_⟩
  · rw [Nat.mul_comm]; exact Nat.div_add_mod _ _
  · have h1 := q_le h.eD h.eW h.wl _ h.qd
    exact (Nat.le_div_iff_mul_le h.tpos).2 (guess_first (dg_lt h.hw m) h1)

theorem gs_step {g r : Nat} (h : Win d w m) (k : Gs d w m g r) (hc : B ≤ g ∨ r * B + dg w m < g * dg d m) : 1 ≤ g ∧ Gs d w m (g - 1) (r + dg d (m + 1)) := by
  have hlt : val w / val d < g := by
    rcases hc with hc | hc
    · exact Nat.lt_of_lt_of_le h.qB hc
    · exact guess_gt k.eq (q_le h.eD h.eW h.wl _ h.qd) hc
  have hk := k.eq
  have hl := k.le
  clear k
  generalize hq : val w / val d = q at *
  refine ⟨by omega, ?_, by rw [hq]; omega⟩
  rw [← hk]
  obtain ⟨p, rfl⟩ : ∃ p, g = p + 1 := ⟨g - 1, by omega⟩
  simp only [Nat.add_sub_cancel, Nat.add_mul, Nat.one_mul]
  omega

/-- A guess that will do. -/
structure Good (d w : List Nat) (g : Nat) : Prop where
  lt : g < B
  le : val w / val d ≤ g
  ge : g ≤ val w / val d + 1

theorem gs_fit {g r : Nat} (h : Win d w m) (k : Gs d w m g r) (hg : g < B) (hc : g * dg d m ≤ r * B + dg w m) : Good d w g := by
  refine ⟨hg, k.le, ?_⟩
  rcases Nat.eq_zero_or_pos g with h0 | h0
  · rw [h0]; exact Nat.zero_le _
  · have h1 := guess_fit k.eq hc
    have hD : g ≤ dg d (m + 1) * B + dg d m + 1 := by
      have : 1 * B ≤ dg d (m + 1) * B := Nat.mul_le_mul_right _ h.tpos
      omega
    have h2 := guess_le h.eD h.eW h.dl g h1 hD h0
    have h3 := (Nat.le_div_iff_mul_le h.dpos).2 h2
    generalize val w / val d = q at *
    omega

theorem gs_break {g r : Nat} (h : Win d w m) (k : Gs d w m g r) (hr : B ≤ r) : Good d w g := by
  have hg : g < B := by
    have h1 := k.eq
    have h2 : dg w (m + 2) * B ≤ dg d (m + 1) * B := Nat.mul_le_mul_right _ h.a_le
    have h3 := dg_lt h.hw (m + 1)
    have h4 : g * dg d (m + 1) < B * dg d (m + 1) := by rw [Nat.mul_comm B]; omega
    exact Nat.lt_of_mul_lt_mul_right h4
  refine gs_fit h k hg ?_
  have h1 := dg_lt h.hd m
  have h2 : g * dg d m ≤ B * B := Nat.mul_le_mul (Nat.le_of_lt hg) (Nat.le_of_lt h1)
  have h3 : B * B ≤ r * B := Nat.mul_le_mul_right _ hr
  omega

/-- Subtracting: no borrow. -/
theorem red_ok {g : Nat} {w' : List Nat} (h : Win d w m) (k : Good d w g) (e : val w' + g * val d = val w) : g = val w / val d ∧ val w' = val w % val d := by
  have h1 : g ≤ val w / val d := (Nat.le_div_iff_mul_le h.dpos).2 (by omega)
  have h2 : g = val w / val d := Nat.le_antisymm h1 k.le
  refine ⟨h2, ?_⟩
  have := Nat.div_add_mod (val w) (val d)
  rw [← h2, Nat.mul_comm] at this
  omega

/-- Subtracting with a borrow, and adding back. -/
theorem red_back {g z : Nat} {w' w'' : List Nat} (h : Win d w m) (k : Good d w g) (hl : w'.length = m + 3) (hL : Lim w') (e : val w' + g * val d = val w + B ^ (m + 3)) (hl' : w''.length = m + 3) (hL' : Lim w'') (e' : val w'' + B ^ (m + 3) * z = val w' + val d) :
    1 ≤ g ∧ g - 1 = val w / val d ∧ val w'' = val w % val d := by
  have h1 := val_lt hL
  rw [hl] at h1
  have h1' := val_lt hL'
  rw [hl'] at h1'
  have h2 : val w < g * val d := by omega
  have h3 : val w / val d < g := (Nat.div_lt_iff_lt_mul h.dpos).2 h2
  have h4 : g = val w / val d + 1 := by have := k.ge; generalize val w / val d = q at *; omega
  refine ⟨by generalize val w / val d = q at *; omega, by generalize val w / val d = q at *; omega, ?_⟩
  have h5 := Nat.div_add_mod (val w) (val d)
  have h6 := Nat.mod_lt (val w) h.dpos
  have h7 : val d < B ^ (m + 3) := by
    have := val_lt h.hd
    rw [h.ld] at this
    exact Nat.lt_of_lt_of_le this (Nat.pow_le_pow_right B_pos (by omega))
  rw [h4, Nat.add_mul, Nat.one_mul, Nat.mul_comm] at e
  generalize val w / val d = q at *
  generalize val w % val d = s at *
  have e2 : val w'' + B ^ (m + 3) * z = s + B ^ (m + 3) := by omega
  have hz : z = 1 := by
    rcases Nat.lt_or_ge z 1 with q | q
    · have : z = 0 := by omega
      subst this; omega
    · rcases Nat.lt_or_ge 1 z with q' | q'
      · have : B ^ (m + 3) * 2 ≤ B ^ (m + 3) * z := Nat.mul_le_mul_left _ q'
        omega
      · omega
  rw [hz, Nat.mul_one] at e2
  omega
end

/-! Bit by bit. -/
theorem dg_val {l : List Nat} (h : Lim l) (j : Nat) : dg l j = val l / B ^ j % B := by
  rcases Nat.lt_or_ge j l.length with q | q
  · have e : l = l.take j ++ (dg l j :: l.drop (j + 1)) := by
      have : l.drop j = dg l j :: l.drop (j + 1) := by
        rw [List.drop_eq_getElem_cons q]
        simp [dg, List.getElem?_eq_getElem q]
      rw [← this, List.take_append_drop]
    have hv := congrArg val e
    rw [val_append, List.length_take, Nat.min_eq_left (Nat.le_of_lt q)] at hv
    have hl := val_lt (lim_take j h)
    rw [List.length_take, Nat.min_eq_left (Nat.le_of_lt q)] at hl
    have hd := dg_lt h j
    rw [hv, Nat.add_mul_div_left _ _ (Bp j), Nat.div_eq_of_lt hl, Nat.zero_add]
    simp only [val]
    rw [Nat.add_mul_mod_self_left, Nat.mod_eq_of_lt hd]
  · rw [dg_ge q]
    have := val_lt h
    have hp : B ^ l.length ≤ B ^ j := Nat.pow_le_pow_right B_pos q
    rw [Nat.div_eq_of_lt (by omega)]; rfl

theorem B_two : B = 2 ^ 32 := rfl
theorem pow_split (i : Nat) : 2 ^ i = B ^ (i / 32) * 2 ^ (i % 32) := by
  rw [B_two, ← Nat.pow_mul, ← Nat.pow_add, Nat.div_add_mod]

/-- The bit that the reference reads. -/
theorem bit_val {l : List Nat} (h : Lim l) (i : Nat) : dg l (i / 32) / 2 ^ (i % 32) % 2 = val l / 2 ^ i % 2 := by
  rw [dg_val h, pow_split i, ← Nat.div_div_eq_div_mul]
  generalize val l / B ^ (i / 32) = v
  have hs : i % 32 < 32 := Nat.mod_lt _ (by decide)
  generalize i % 32 = s at *
  have e : B = 2 ^ s * (2 * 2 ^ (31 - s)) := by
    rw [B_two, ← Nat.pow_succ', ← Nat.pow_add]; congr 1; omega
  rw [e, Nat.mod_mul_right_div_self, Nat.mod_mul_right_mod]

/-- The limb into which the reference writes has room. -/
theorem bit_room {q : List Nat} (h : Lim q) {X i : Nat} (e : val q = X * 2 ^ (i + 1)) : dg q (i / 32) + 2 ^ (i % 32) < B := by
  have hs : i % 32 < 32 := Nat.mod_lt _ (by decide)
  rw [dg_val h, e, Nat.pow_succ, pow_split i]
  generalize i % 32 = s at *
  generalize i / 32 = j at *
  have e1 : X * (B ^ j * 2 ^ s * 2) = B ^ j * (2 ^ (s + 1) * X) := by
    rw [Nat.pow_succ]
    generalize B ^ j = p
    generalize 2 ^ s = t
    grind
  rw [e1, Nat.mul_div_cancel_left _ (Bp j)]
  have e2 : B = 2 ^ (s + 1) * 2 ^ (31 - s) := by
    rw [B_two, ← Nat.pow_add]; congr 1; omega
  have hp : 0 < 2 ^ (31 - s) := Nat.two_pow_pos _
  rw [show 2 ^ (s + 1) * X % B = 2 ^ (s + 1) * (X % 2 ^ (31 - s)) by rw [e2, Nat.mul_mod_mul_left]]
  have h1 : X % 2 ^ (31 - s) < 2 ^ (31 - s) := Nat.mod_lt _ hp
  have h2 : 2 ^ (s + 1) * (X % 2 ^ (31 - s) + 1) ≤ 2 ^ (s + 1) * 2 ^ (31 - s) := Nat.mul_le_mul_left _ h1
  rw [← e2, Nat.mul_add, Nat.mul_one] at h2
  have h3 : 2 ^ s < 2 ^ (s + 1) := Nat.pow_lt_pow_right (by decide) (by omega)
  omega

/-- One round: the rest and the quotient of one more bit. -/
theorem bit_step {a b i r : Nat} (hb : 0 < b) (hr : r = a / 2 ^ (i + 1) % b) :
    a / 2 ^ i % b = (if b ≤ 2 * r + a / 2 ^ i % 2 then 2 * r + a / 2 ^ i % 2 - b else 2 * r + a / 2 ^ i % 2) ∧
    a / 2 ^ i / b = 2 * (a / 2 ^ (i + 1) / b) + (if b ≤ 2 * r + a / 2 ^ i % 2 then 1 else 0) := by
  have e : a / 2 ^ (i + 1) = a / 2 ^ i / 2 := by rw [Nat.pow_succ, Nat.div_div_eq_div_mul]
  rw [e] at hr ⊢
  generalize a / 2 ^ i = v at *
  have h1 := Nat.div_add_mod v 2
  have h2 := Nat.div_add_mod (v / 2) b
  rw [← hr] at h2
  have h3 : r < b := by rw [hr]; exact Nat.mod_lt _ hb
  have h4 : v % 2 < 2 := Nat.mod_lt _ (by decide)
  generalize v / 2 / b = Q at *
  generalize v % 2 = t at *
  have hv : v = b * (2 * Q) + (2 * r + t) := by
    have : b * (2 * Q) = 2 * (b * Q) := by rw [Nat.mul_left_comm]
    omega
  rw [hv]
  split
  · rename_i hc
    have e3 : b * (2 * Q) + (2 * r + t) = (2 * r + t - b) + b * (2 * Q + 1) := by rw [Nat.mul_add, Nat.mul_one]; omega
    rw [e3, Nat.add_mul_mod_self_left, Nat.add_mul_div_left _ _ hb, Nat.div_eq_of_lt (by omega), Nat.mod_eq_of_lt (by omega)]
    exact ⟨rfl, by omega⟩
  · rw [Nat.add_comm (b * (2 * Q)), Nat.add_mul_mod_self_left, Nat.add_mul_div_left _ _ hb, Nat.div_eq_of_lt (by omega), Nat.mod_eq_of_lt (by omega)]
    exact ⟨rfl, by omega⟩

end Go.Proofs.YtjniafcnjbbomaaGreatDoor.NL

namespace Go.Proofs.YtjniafcnjbbomaaGreatDoor.NL

abbrev Fq := Nat × Nat

def Lt128 (n : Nat) : Prop := n < B ^ 128
instance (n : Nat) : Decidable (Lt128 n) := inferInstanceAs (Decidable (n < B ^ 128))
theorem lt128_iff (n : Nat) : Lt128 n ↔ (ofN n).length ≤ 128 := ⟨len_ofN, lt_of_len⟩

/-- In lowest terms, within the limit. -/
structure VQ (q : Fq) : Prop where
  pos : 0 < q.2
  gcd : Nat.gcd q.1 q.2 = 1
  f1 : Lt128 q.1
  f2 : Lt128 q.2

def red (n d : Nat) : Fq := (n / Nat.gcd n d, d / Nat.gcd n d)

theorem VQ_red {n d : Nat} (h : 0 < d) (h1 : Lt128 n) (h2 : Lt128 d) : VQ (red n d) := by
  have hg : 0 < Nat.gcd n d := Nat.gcd_pos_of_pos_right _ h
  exact ⟨Nat.div_gcd_pos_of_pos_right _ h, Nat.gcd_div_gcd_div_gcd_of_pos_right h, Nat.lt_of_le_of_lt (Nat.div_le_self _ _) h1, Nat.lt_of_le_of_lt (Nat.div_le_self _ _) h2⟩

def pmul (a b : Fq) : Option Fq := if Lt128 (a.1 * b.1) ∧ Lt128 (a.2 * b.2) then some (red (a.1 * b.1) (a.2 * b.2)) else none
def pcompl (a : Fq) : Fq := (a.2 - a.1, a.2)

theorem VQ_mul {a b c : Fq} (ha : VQ a) (hb : VQ b) (h : pmul a b = some c) : VQ c := by
  unfold pmul at h
  split at h
  · rename_i k
    injection h with h; subst h
    exact VQ_red (Nat.mul_pos ha.pos hb.pos) k.1 k.2
  · cases h

theorem gcd_compl {a : Fq} (h : a.1 ≤ a.2) : Nat.gcd (a.2 - a.1) a.2 = Nat.gcd a.1 a.2 := by
  rw [Nat.gcd_self_sub_left h]

theorem VQ_compl {a : Fq} (ha : VQ a) (h : a.1 ≤ a.2) : VQ (pcompl a) :=
  ⟨ha.pos, by rw [pcompl]; exact (gcd_compl h).trans ha.gcd, Nat.lt_of_le_of_lt (Nat.sub_le _ _) ha.f2, ha.f2⟩
theorem red_compl {a : Fq} (ha : VQ a) (h : a.1 ≤ a.2) : red (a.2 - a.1) a.2 = pcompl a := by
  have := (gcd_compl h).trans ha.gcd
  simp only [red, this, Nat.div_one, pcompl]

theorem VQ_one : VQ (1, 1) := ⟨by decide, by decide, Nat.one_lt_pow (by decide) (by decide), Nat.one_lt_pow (by decide) (by decide)⟩

end Go.Proofs.YtjniafcnjbbomaaGreatDoor.NL

namespace Go.Proofs.YtjniafcnjbbomaaGreatDoor.NL

theorem val_take_drop (l : List Nat) (k : Nat) (h : k ≤ l.length) : val l = val (l.take k) + B ^ k * val (l.drop k) := by
  have e := congrArg val (List.take_append_drop k l)
  rw [val_append, List.length_take, Nat.min_eq_left h] at e
  exact e.symm

theorem val_take_lt {l : List Nat} (h : Lim l) (k : Nat) : val (l.take k) < B ^ k := by
  have := val_lt (lim_take k h)
  exact Nat.lt_of_lt_of_le this (Nat.pow_le_pow_right B_pos (by rw [List.length_take]; omega))

theorem val_drop {l : List Nat} (h : Lim l) (k : Nat) : val (l.drop k) = val l / B ^ k := by
  rcases Nat.lt_or_ge k l.length with q | q
  · rw [val_take_drop l k (Nat.le_of_lt q), Nat.add_mul_div_left _ _ (Bp k), Nat.div_eq_of_lt (val_take_lt h k), Nat.zero_add]
  · rw [List.drop_of_length_le q]
    have := val_lt h
    have hp : B ^ l.length ≤ B ^ k := Nat.pow_le_pow_right B_pos q
    rw [Nat.div_eq_of_lt (by omega)]; rfl

theorem drop_dg {l : List Nat} {k : Nat} (h : k < l.length) : l.drop k = dg l k :: l.drop (k + 1) := by
  rw [List.drop_eq_getElem_cons h]
  simp [dg, List.getElem?_eq_getElem h]

/-- A list with the digits of V. -/
theorem val_digits {l : List Nat} {V : Nat} (hV : V < B ^ l.length) (h : ∀ i, i < l.length → dg l i = V / B ^ i % B) : val l = V := by
  have key : ∀ k, k ≤ l.length → val (l.take k) = V % B ^ k := by
    intro k
    induction k with
    | zero => intro _; simp [val, Nat.mod_one]
    | succ k ih =>
      intro hk
      rw [vt_succ, ih (by omega), h k (by omega), Nat.pow_succ, Nat.mod_mul]
  have := key l.length (Nat.le_refl _)
  rwa [List.take_length, Nat.mod_eq_of_lt hV] at this

/-! Shifting right. -/
theorem right_dg {l : List Nat} (h : Lim l) {s i : Nat} (hs : s < 32) (hi : i < l.length) : (dg l i + dg l (i + 1) * B) / 2 ^ s % B = val l / 2 ^ s / B ^ i % B := by
  have e1 : val l / 2 ^ s / B ^ i = val l / B ^ i / 2 ^ s := by rw [Nat.div_div_eq_div_mul, Nat.div_div_eq_div_mul, Nat.mul_comm]
  rw [e1, ← val_drop h, drop_dg hi]
  have e2 : val (l.drop (i + 1)) = dg l (i + 1) + B * val (l.drop (i + 2)) := by
    rcases Nat.lt_or_ge (i + 1) l.length with q | q
    · rw [drop_dg q]; rfl
    · rw [List.drop_of_length_le q, List.drop_of_length_le (by omega), dg_ge q]; rfl
  simp only [val]
  rw [e2]
  generalize dg l i = x
  generalize dg l (i + 1) = y
  generalize val (l.drop (i + 2)) = z
  have eB : B = 2 ^ s * 2 ^ (32 - s) := by rw [B_two, ← Nat.pow_add]; congr 1; omega
  have e3 : x + B * (y + B * z) = (x + y * B) + 2 ^ s * (2 ^ (32 - s) * z * B) := by
    have : B * (B * z) = 2 ^ s * (2 ^ (32 - s) * z * B) := by
      generalize hb : B = b at *
      generalize 2 ^ s = p at *
      generalize 2 ^ (32 - s) = t at *
      rw [eB]; grind
    rw [Nat.mul_add, this, Nat.mul_comm B y]; omega
  rw [e3, Nat.add_mul_div_left _ _ (Nat.two_pow_pos s), Nat.add_mul_mod_self_right]

theorem or_add {x y s : Nat} (h : x < 2 ^ s) : x ||| y * 2 ^ s = x + y * 2 ^ s := by
  have := Nat.two_pow_add_eq_or_of_lt h y
  rw [Nat.or_comm, Nat.mul_comm y, ← this]; omega

/-! Shifting left: the carry and the low half. -/
theorem left_or {c x s : Nat} (hs : s < 32) (h : c < 2 ^ s) : c ||| x * 2 ^ s % B = c + x * 2 ^ s % B ∧ c + x * 2 ^ s % B < B := by
  have eB : B = 2 ^ (32 - s) * 2 ^ s := by rw [B_two, ← Nat.pow_add]; congr 1; omega
  have e : x * 2 ^ s % B = (x % 2 ^ (32 - s)) * 2 ^ s := by rw [eB, Nat.mul_mod_mul_right]
  rw [e]
  refine ⟨or_add h, ?_⟩
  have h1 : x % 2 ^ (32 - s) < 2 ^ (32 - s) := Nat.mod_lt _ (Nat.two_pow_pos _)
  have h2 : (x % 2 ^ (32 - s) + 1) * 2 ^ s ≤ 2 ^ (32 - s) * 2 ^ s := Nat.mul_le_mul_right _ h1
  rw [← eB, Nat.add_mul, Nat.one_mul] at h2
  omega
theorem left_hi {x s : Nat} (hx : x < B) : x * 2 ^ s / B < 2 ^ s := by
  rw [Nat.div_lt_iff_lt_mul B_pos, Nat.mul_comm (2 ^ s)]
  exact Nat.mul_lt_mul_of_pos_right hx (Nat.two_pow_pos s)

/-! Division by one limb, one round. -/
theorem byLimb_step {X d x : Nat} (hd : 0 < d) : (x + B * X) / d = (X % d * B + x) / d + B * (X / d) ∧ (x + B * X) % d = (X % d * B + x) % d := by
  have h := Nat.div_add_mod X d
  have e : x + B * X = (X % d * B + x) + d * (B * (X / d)) := by
    generalize X / d = q at *
    generalize X % d = r at *
    rw [← h, Nat.mul_add, Nat.mul_left_comm B d q, Nat.mul_comm B r]; omega
  rw [e, Nat.add_mul_div_left _ _ hd, Nat.add_mul_mod_self_left]
  exact ⟨rfl, rfl⟩
theorem byLimb_lt {r d x : Nat} (hr : r < d) (hx : x < B) : (r * B + x) / d < B := by
  rw [Nat.div_lt_iff_lt_mul (by omega)]
  have h : (r + 1) * B ≤ d * B := Nat.mul_le_mul_right _ hr
  rw [Nat.add_mul, Nat.one_mul] at h
  rw [Nat.mul_comm B d]; omega

/-! The division by guessed limbs. n = m + 2: the divisor's limbs; u: la + 1 limbs; q: the quotient's. -/
structure DM (d u q : List Nat) (A la m k : Nat) : Prop where
  ld : d.length = m + 2
  hd : Lim d
  top : B ≤ 2 * dg d (m + 1)
  lu : u.length = la + 1
  hu : Lim u
  hq : Lim q
  lq : q.length + (m + 2) = la + 1
  k_le : k ≤ q.length
  lt : val (u.drop k) < val d
  eq : val u + val d * val q = A
  z : ∀ j, j < k → dg q j = 0

/-- The window at a place, and the digits behind it. -/
def win (u : List Nat) (at' m : Nat) : List Nat := (u.drop at').take (m + 3)

theorem DM.cut {d u q : List Nat} {A la m k : Nat} (h : DM d u q A la m (k + 1)) : Win d (win u k m) m ∧ val (u.drop (k + (m + 3))) = 0 ∧ u = u.take k ++ (win u k m ++ u.drop (k + (m + 3))) ∧ (u.take k).length = k := by
  have hlen : (win u k m).length = m + 3 := by
    simp only [win, List.length_take, List.length_drop]
    have h1 := h.lu
    have h2 := h.lq
    have h3 := h.k_le
    omega
  have e0 : u.drop k = win u k m ++ u.drop (k + (m + 3)) := by
    have := List.take_append_drop (m + 3) (u.drop k)
    rw [List.drop_drop] at this
    exact this.symm
  have hdlt : val d < B ^ (m + 2) := by have := val_lt h.hd; rwa [h.ld] at this
  have hku : k < u.length := by have h1 := h.lu; have h2 := h.lq; have h3 := h.k_le; omega
  have e1 := drop_dg hku
  have hz : val (u.drop (k + (m + 3))) = 0 := by
    have hx := val_drop (lim_drop (k + 1) h.hu) (m + 2)
    rw [List.drop_drop] at hx
    rw [show k + (m + 3) = k + 1 + (m + 2) by omega, hx]
    exact Nat.div_eq_of_lt (Nat.lt_trans h.lt hdlt)
  refine ⟨⟨h.ld, hlen, h.hd, lim_take _ (lim_drop _ h.hu), h.top, ?_⟩, hz, ?_, ?_⟩
  · have v1 := congrArg val e0
    rw [val_append, hz, e1] at v1
    simp only [val, Nat.mul_zero, Nat.add_zero] at v1
    rw [← v1]
    have h1 := dg_lt h.hu k
    have h2 : B * (val (u.drop (k + 1)) + 1) ≤ B * val d := Nat.mul_le_mul_left _ h.lt
    rw [Nat.mul_add, Nat.mul_one] at h2
    rw [Nat.mul_comm (val d)]
    omega
  · rw [← e0, List.take_append_drop]
  · rw [List.length_take]; omega

theorem DM.step {d u q : List Nat} {A la m k g : Nat} {w : List Nat} (h : DM d u q A la m (k + 1)) (hg : g = val (win u k m) / val d) (hw : val w = val (win u k m) % val d) (hl : w.length = m + 3) (hL : Lim w) :
    DM d (u.take k ++ (w ++ u.drop (k + (m + 3)))) (q.set k g) A la m k := by
  obtain ⟨W, hz, hu, hlk⟩ := h.cut
  have hdm := Nat.div_add_mod (val (win u k m)) (val d)
  rw [← hg, ← hw] at hdm
  have hgB : g < B := by rw [hg]; exact W.qB
  have hkq : k < q.length := h.k_le
  have hwd : val w < val d := by rw [hw]; exact Nat.mod_lt _ W.dpos
  refine ⟨h.ld, h.hd, h.top, ?_, ?_, lim_set h.hq hgB, ?_, ?_, ?_, ?_, ?_⟩
  · have h1 := h.lu
    have h2 := congrArg List.length hu
    simp only [List.length_append, hlk, hl, W.lw] at h2 ⊢
    omega
  · exact lim_app (lim_take _ h.hu) (lim_app hL (lim_drop _ h.hu))
  · rw [List.length_set]; exact h.lq
  · rw [List.length_set]; omega
  · rw [List.drop_append_of_le_length (by omega), List.drop_of_length_le (by omega), List.nil_append, val_append, hz]
    omega
  · have h1 := h.eq
    have h2 := val_set0 g hkq (h.z k (by omega))
    rw [hu, val_append, val_append, hz, hlk] at h1
    rw [val_append, val_append, hz, hlk, h2]
    have h3 : B ^ k * (val d * g + val w) = B ^ k * val (win u k m) := by rw [hdm]
    simp only [Nat.mul_zero, Nat.add_zero] at h1 ⊢
    rw [Nat.mul_add] at h3
    rw [Nat.mul_add, Nat.mul_left_comm (val d)]
    omega
  · intro j hj
    rw [dg_set_ne (by omega)]
    exact h.z j (by omega)

theorem DM.fin {d u q : List Nat} {A la m : Nat} (h : DM d u q A la m 0) : val q = A / val d ∧ val u = A % val d := by
  have h1 := h.lt
  simp only [List.drop_zero] at h1
  have h2 := h.eq
  rw [← h2, Nat.add_mul_div_left _ _ (by omega), Nat.div_eq_of_lt h1, Nat.add_mul_mod_self_left, Nat.mod_eq_of_lt h1]
  omega

/-- The shift that brings the top limb to half the base. -/
theorem norm_shift {b : List Nat} {m s : Nat} (hb : Lim b) (hl : b.length = m + 2) (h0 : dg b (m + 1) ≠ 0) (hs : s = 31 - Nat.log2 (dg b (m + 1))) :
    s < 32 ∧ val b * 2 ^ s < B ^ (m + 2) ∧ 2 ^ 31 * B ^ (m + 1) ≤ val b * 2 ^ s ∧ B ^ (m + 1) * 2 ^ s ≤ val b * 2 ^ s := by
  have hx := dg_lt hb (m + 1)
  have e := vt_full (l := b) (k := m + 2) (by omega)
  rw [vt_succ] at e
  have hlow := val_take_lt hb (m + 1)
  generalize val (b.take (m + 1)) = lo at *
  generalize dg b (m + 1) = x at *
  have h1 := Nat.log2_self_le h0
  have h2 := @Nat.lt_log2_self x
  have hL : Nat.log2 x < 32 := (Nat.log2_lt h0).2 hx
  have hLs : 2 ^ (Nat.log2 x) * 2 ^ s = 2 ^ 31 := by rw [← Nat.pow_add]; congr 1; omega
  have hps : 0 < 2 ^ s := Nat.two_pow_pos s
  have hP := Bp (m + 1)
  rw [← e]
  refine ⟨by omega, ?_, ?_, ?_⟩
  · have a1 : (lo + B ^ (m + 1) * x) < B ^ (m + 1) * (x + 1) := by rw [Nat.mul_add, Nat.mul_one]; omega
    have a2 : (lo + B ^ (m + 1) * x) * 2 ^ s < B ^ (m + 1) * (x + 1) * 2 ^ s := Nat.mul_lt_mul_of_pos_right a1 hps
    have a3 : (x + 1) * 2 ^ s ≤ 2 ^ (Nat.log2 x + 1) * 2 ^ s := Nat.mul_le_mul_right _ h2
    have a4 : 2 ^ (Nat.log2 x + 1) * 2 ^ s = B := by rw [Nat.pow_succ, Nat.mul_right_comm, hLs]
    have a5 : B ^ (m + 1) * ((x + 1) * 2 ^ s) ≤ B ^ (m + 1) * B := Nat.mul_le_mul_left _ (by omega)
    rw [← Nat.mul_assoc, ← Nat.pow_succ] at a5
    exact Nat.lt_of_lt_of_le a2 a5
  · have a1 : 2 ^ (Nat.log2 x) * 2 ^ s * B ^ (m + 1) ≤ x * 2 ^ s * B ^ (m + 1) := Nat.mul_le_mul_right _ (Nat.mul_le_mul_right _ h1)
    rw [hLs] at a1
    have a2 : x * 2 ^ s * B ^ (m + 1) ≤ (lo + B ^ (m + 1) * x) * 2 ^ s := by
      rw [Nat.add_mul, Nat.mul_comm (B ^ (m + 1)) x, Nat.mul_right_comm]; omega
    omega
  · apply Nat.mul_le_mul_right
    have : B ^ (m + 1) * 1 ≤ B ^ (m + 1) * x := Nat.mul_le_mul_left _ (by omega)
    omega

/-- The begin of the division. -/
theorem DM.start {a b d u q : List Nat} {la m s : Nat} (ha : Lim a) (hb : Lim b) (hla : a.length = la) (hl : b.length = m + 2) (hle : m + 2 ≤ la) (h0 : dg b (m + 1) ≠ 0) (hs : s = 31 - Nat.log2 (dg b (m + 1)))
    (hd : Lim d) (ld : d.length = m + 2) (vd : val d = val b * 2 ^ s) (hu : Lim u) (lu : u.length = la + 1) (vu : val u = val a * 2 ^ s) (lq : q = List.replicate (la - (m + 2) + 1) 0) :
    DM d u q (val a * 2 ^ s) la m (la - (m + 2) + 1) := by
  obtain ⟨k1, k2, k3, k4⟩ := norm_shift hb hl h0 hs
  subst lq
  refine ⟨ld, hd, ?_, lu, hu, lim_zeros _, by simp; omega, by simp, ?_, by rw [val_zeros, vu]; simp, fun j _ => dg_zeros _ _⟩
  · have e := dg_val hd (m + 1)
    rw [vd] at e
    have h1 : val b * 2 ^ s / B ^ (m + 1) < B := by
      rw [Nat.div_lt_iff_lt_mul (Bp _), Nat.mul_comm B, ← Nat.pow_succ]; exact k2
    rw [Nat.mod_eq_of_lt h1] at e
    have h2 : 2 ^ 31 ≤ val b * 2 ^ s / B ^ (m + 1) := (Nat.le_div_iff_mul_le (Bp _)).2 k3
    rw [← e] at h2
    simp only [B]; omega
  · rw [val_drop hu, vu, Nat.div_lt_iff_lt_mul (Bp _), vd]
    have h1 := val_lt ha
    rw [hla] at h1
    have h2 : val a * 2 ^ s < B ^ la * 2 ^ s := Nat.mul_lt_mul_of_pos_right h1 (Nat.two_pow_pos s)
    have h3 : B ^ (m + 1) * 2 ^ s * B ^ (la - (m + 2) + 1) ≤ val b * 2 ^ s * B ^ (la - (m + 2) + 1) := Nat.mul_le_mul_right _ k4
    have h4 : B ^ (m + 1) * 2 ^ s * B ^ (la - (m + 2) + 1) = B ^ la * 2 ^ s := by
      rw [Nat.mul_right_comm, ← Nat.pow_add]; congr 2; omega
    omega

end Go.Proofs.YtjniafcnjbbomaaGreatDoor.NL

namespace Go.Proofs.YtjniafcnjbbomaaGreatDoor.DE.V
open Go NL

/-- A length that a machine holds. -/
abbrev Bd (n : Nat) : Prop := n < 4611686018427387904
theorem Bd.lt {n m : Nat} (h : Bd n) (k : m ≤ n) : Bd m := Nat.lt_of_le_of_lt k h
theorem wrapS {k : Nat} (h : Bd k) : IntKind.wrap .i64 ((k : Int) + 1) = ((k + 1 : Nat) : Int) := by
  rw [wrap64 ⟨by omega, by unfold Bd at h; omega⟩]; omega
theorem take_next {α : Type} {l m : List α} {k : Nat} {x : α} (h : l.take k = m.take k) (hl : l[k]? = some x) (hm : m[k]? = some x) : l.take (k + 1) = m.take (k + 1) := by
  rw [List.take_add_one, List.take_add_one, h, hl, hm]
theorem take_full {α : Type} {l m : List α} {k : Nat} (h : l.take k = m.take k) (hl : l.length ≤ k) (hm : m.length ≤ k) : l = m := by
  rwa [List.take_of_length_le hl, List.take_of_length_le hm] at h
theorem take_snoc {α : Type} {l : List α} {k : Nat} {x : α} (hx : l[k]? = some x) : l.take (k + 1) = l.take k ++ [x] := by rw [List.take_add_one, hx]; rfl

theorem wrapu32 {n : Int} (h0 : 0 ≤ n) (h : n < 4294967296) : IntKind.wrap .u32 n = n := by
  have e : n % 4294967296 = n := by omega
  simp [IntKind.wrap, IntKind.signed, IntKind.bits, e]
theorem wrapu64 {n : Int} (h0 : 0 ≤ n) (h : n < 18446744073709551616) : IntKind.wrap .u64 n = n := by
  have e : n % 18446744073709551616 = n := by omega
  simp [IntKind.wrap, IntKind.signed, IntKind.bits, e]
theorem wrapu32m (n : Nat) : IntKind.wrap .u32 n = ((n % B : Nat) : Int) := by
  simp [IntKind.wrap, IntKind.signed, IntKind.bits, B]
theorem wrapN {n : Nat} (h : n < 9223372036854775808) : IntKind.wrap .i64 n = n := wrap64 ⟨by omega, by omega⟩
theorem conv_i (k k' : IntKind) (n : Int) : convD k (.i k' n) = some (.i k (k.wrap n)) := (rfl)
theorem conv32 {k : IntKind} {n : Nat} (h : n < B) : convD .u32 (.i k n) = some (.i .u32 n) := by rw [conv_i, wrapu32 (by omega) (by simp only [B] at h; omega)]
theorem conv32m {k : IntKind} (n : Nat) : convD .u32 (.i k n) = some (.i .u32 ((n % B : Nat) : Int)) := by rw [conv_i, wrapu32m]
theorem conv64 {k : IntKind} {n : Nat} (h : n < 18446744073709551616) : convD .u64 (.i k n) = some (.i .u64 n) := by rw [conv_i, wrapu64 (by omega) (by omega)]
theorem conv64B {k : IntKind} {n : Nat} (h : n < B) : convD .u64 (.i k n) = some (.i .u64 n) := conv64 (by simp only [B] at h; omega)

theorem add64 {a b : Nat} (h : a + b < 18446744073709551616) : binD .add .num (.i .u64 a) (.i .u64 b) = some (.i .u64 ((a + b : Nat) : Int)) := by
  rw [bin_add, ← Int.natCast_add, wrapu64 (by omega) (by omega)]
theorem sub64 {a b : Nat} (h : b ≤ a) (ha : a < 18446744073709551616) : binD .sub .num (.i .u64 a) (.i .u64 b) = some (.i .u64 ((a - b : Nat) : Int)) := by
  rw [bin_sub, wrapu64 (by omega) (by omega)]
  congr 2; omega
theorem mul64 {a b : Nat} (h : a * b < 18446744073709551616) : binD .mul .num (.i .u64 a) (.i .u64 b) = some (.i .u64 ((a * b : Nat) : Int)) := by
  simp only [binD, intOp, if_true]
  rw [← Int.natCast_mul, wrapu64 (by omega) (by omega)]
theorem quo64 {a b : Nat} (h : 0 < b) (ha : a < 18446744073709551616) : binD .quo .num (.i .u64 a) (.i .u64 b) = some (.i .u64 ((a / b : Nat) : Int)) := by
  have : a / b ≤ a := Nat.div_le_self _ _
  simp only [binD, intOp, if_true]
  have e : (a : Int).tdiv b = ((a / b : Nat) : Int) := (Int.ofNat_tdiv a b).symm
  rw [if_neg (by omega), e]
  generalize a / b = c at *
  rw [wrapu64 (by omega) (by omega)]
theorem rem64 {a b : Nat} (h : 0 < b) : binD .rem .num (.i .u64 a) (.i .u64 b) = some (.i .u64 ((a % b : Nat) : Int)) := by
  simp only [binD, intOp, if_true]
  have e : (a : Int).tmod b = ((a % b : Nat) : Int) := (Int.ofNat_tmod a b).symm
  rw [if_neg (by omega), e]
theorem quoI {a b : Nat} (h : 0 < b) (ha : a < 9223372036854775808) : binD .quo .num (.i .i64 a) (.i .i64 b) = some (.i .i64 ((a / b : Nat) : Int)) := by
  have : a / b ≤ a := Nat.div_le_self _ _
  simp only [binD, intOp, if_true]
  have e : (a : Int).tdiv b = ((a / b : Nat) : Int) := (Int.ofNat_tdiv a b).symm
  rw [if_neg (by omega), e]
  generalize a / b = c at *
  rw [wrapN (by omega)]
theorem remI {a b : Nat} (h : 0 < b) : binD .rem .num (.i .i64 a) (.i .i64 b) = some (.i .i64 ((a % b : Nat) : Int)) := by
  simp only [binD, intOp, if_true]
  have e : (a : Int).tmod b = ((a % b : Nat) : Int) := (Int.ofNat_tmod a b).symm
  rw [if_neg (by omega), e]

theorem shr_any {k k' : IntKind} {v s : Nat} (hs : s ≤ k.bits) : binD .shr .num (.i k v) (.i k' s) = some (.i k ((v / 2 ^ s : Nat) : Int)) := by
  have hm : min s k.bits = s := by omega
  simp only [binD, shOp]
  rw [if_neg (by omega)]
  simp only [Int.toNat_natCast, hm]
  have e : (v : Int).fdiv (2 ^ s) = ((v / 2 ^ s : Nat) : Int) := by
    rw [show ((2 : Int) ^ s) = ((2 ^ s : Nat) : Int) by simp, ← Int.ofNat_fdiv]
  rw [e]
theorem shr32 (v : Nat) : binD .shr .num (.i .u64 v) (.i .u64 32) = some (.i .u64 ((v / B : Nat) : Int)) := shr_any (k := .u64) (k' := .u64) (v := v) (s := 32) (by decide)
theorem shl_any {k' : IntKind} {v s : Nat} (hs : s ≤ 64) (h : v * 2 ^ s < 18446744073709551616) : binD .shl .num (.i .u64 v) (.i k' s) = some (.i .u64 ((v * 2 ^ s : Nat) : Int)) := by
  have hm : min s 64 = s := by omega
  simp only [binD, shOp]
  rw [if_neg (by omega)]
  simp only [IntKind.bits, Int.toNat_natCast, hm]
  have e : (v : Int) * (2 : Int) ^ s = ((v * 2 ^ s : Nat) : Int) := by simp
  rw [e]
  generalize v * 2 ^ s = m at *
  rw [wrapu64 (by omega) (by omega)]
theorem shl32 {v : Nat} (h : v < B) : binD .shl .num (.i .u64 v) (.i .u64 32) = some (.i .u64 ((v * B : Nat) : Int)) := shl_any (k' := .u64) (v := v) (s := 32) (by decide) (by simp only [B] at h; omega)

theorem or32 {x y : Nat} (hx : x < B) (hy : y < B) : binD .or .num (.i .u32 x) (.i .u32 y) = some (.i .u32 ((x ||| y : Nat) : Int)) := by
  have ho : x ||| y < 2 ^ 32 := Nat.or_lt_two_pow hx hy
  have e : ((BitVec.ofInt 32 (x : Int) ||| BitVec.ofInt 32 (y : Int)).toNat : Int) = ((x ||| y : Nat) : Int) := by
    simp only [BitVec.ofInt_natCast, BitVec.toNat_or, BitVec.toNat_ofNat]
    rw [Nat.mod_eq_of_lt (show x < 2 ^ 32 from hx), Nat.mod_eq_of_lt (show y < 2 ^ 32 from hy)]
  simp only [binD, intOp, if_true]
  exact congrArg (fun z => some (D.i .u32 z)) ((congrArg (IntKind.wrap .u32) e).trans (wrapu32 (by omega) (by omega)))
theorem or64 {x y : Nat} (hx : x < 18446744073709551616) (hy : y < 18446744073709551616) : binD .or .num (.i .u64 x) (.i .u64 y) = some (.i .u64 ((x ||| y : Nat) : Int)) := by
  have ho : x ||| y < 2 ^ 64 := Nat.or_lt_two_pow (show x < 2 ^ 64 from hx) (show y < 2 ^ 64 from hy)
  have e : ((BitVec.ofInt 64 (x : Int) ||| BitVec.ofInt 64 (y : Int)).toNat : Int) = ((x ||| y : Nat) : Int) := by
    simp only [BitVec.ofInt_natCast, BitVec.toNat_or, BitVec.toNat_ofNat]
    rw [Nat.mod_eq_of_lt (show x < 2 ^ 64 from hx), Nat.mod_eq_of_lt (show y < 2 ^ 64 from hy)]
  simp only [binD, intOp, if_true]
  exact congrArg (fun z => some (D.i .u64 z)) ((congrArg (IntKind.wrap .u64) e).trans (wrapu64 (by omega) (by omega)))
/-- The high half and the low half. -/
theorem orB {x y : Nat} (hx : x < B) (hy : y < B) : binD .or .num (.i .u64 ((x * B : Nat) : Int)) (.i .u64 y) = some (.i .u64 ((x * B + y : Nat) : Int)) := by
  have hxB : x * B < 18446744073709551616 := by simp only [B] at hx ⊢; omega
  rw [or64 hxB (by simp only [B] at hy; omega), Nat.or_comm]
  have := or_add (x := y) (y := x) (s := 32) hy
  rw [B_two, this, Nat.add_comm]

/-! Rows of limbs. -/
def eLims (nl : Bool) (l : List Nat) (o : Own) : D := .sl 1 nl (List.map (fun n : Nat => [D.i .u32 (n : Int)]) l) o
@[simp] theorem noRef_lims (nl : Bool) (l : List Nat) : noRef (eLims nl l .ro) = true := by
  simp only [eLims, noRef, Bool.true_and]
  exact noRefLL_map (fun n : Nat => [D.i .u32 (n : Int)]) (fun _ => rfl) l
@[simp] theorem strip_lims (nl : Bool) (l : List Nat) (o : Own) : strip (eLims nl l o) = eLims nl l .ro := (rfl)
@[simp] theorem strip1_lims (nl : Bool) (l : List Nat) (o : Own) : strip1 (eLims nl l o) = eLims nl l .ro := (rfl)
@[simp] theorem stripT_lims (nl : Bool) (l : List Nat) (o : Own) : stripT (eLims nl l o) = eLims nl l .ro := (rfl)
@[simp] theorem isCell_lims (nl : Bool) (l : List Nat) (o : Own) : isCell (eLims nl l o) = true := (rfl)
@[simp] theorem cellsK_lims (m : Nat) (nl : Bool) (l : List Nat) (o : Own) : cellsK m false (eLims nl l o) = some [eLims nl l o] := (rfl)
@[simp] theorem len_lims (nl : Bool) (l : List Nat) (o : Own) : lenD false (eLims nl l o) = some (.i .i64 l.length) := by simp [eLims, lenD]
theorem ia_lims {nl : Bool} {l : List Nat} {o : Own} {k : IntKind} {i : Nat} (h : i < l.length) : iaD 1 (eLims nl l o) (.i k i) = some (.el [.i .u32 (dg l i : Nat)] 0) := by simp [eLims, iaD, dg, h]
@[simp] theorem slc_lims {nl : Bool} {l : List Nat} {o : Own} {k : IntKind} {n : Nat} (h : n ≤ l.length) : slcD 1 (eLims nl l o) none (some (.i k n)) = some (eLims nl (l.take n) .ro) := by
  have h' : (n : Int) ≤ (l.length : Int) := by omega
  simp [slcD, bounds, eLims, h']
/-! Arrays of limbs. -/
def eCells (l : List Nat) : List D := l.map fun n : Nat => D.i .u32 (n : Int)
@[simp] theorem cells_len (l : List Nat) : (eCells l).length = l.length := by simp [eCells]
theorem cells_get {l : List Nat} {i : Nat} (h : i < l.length) : (eCells l)[i]? = some (.i .u32 (dg l i : Nat)) := by simp [eCells, dg, h]
theorem cells_set : ∀ (l : List Nat) (i x : Nat), fset (eCells l) i (.i .u32 x) = eCells (l.set i x)
  | [], _, _ => rfl
  | _ :: _, 0, _ => rfl
  | y :: l, i + 1, x => by simpa [eCells, fset] using cells_set l i x
theorem ld_cells {S : Store} {id : Nat} {l : List Nat} {i : Nat} (hS : sget S id = some (.box (eCells l))) (h : i < l.length) : ldD S 1 false (.bx id i) = some (.i .u32 (dg l i : Nat)) := by
  simp [hS, cells_get h]
theorem st_cells {S : Store} {id : Nat} {l : List Nat} {i x : Nat} (hS : sget S id = some (.box (eCells l))) (h : i < l.length) : stD S 1 false (.bx id i) (.i .u32 x) = some (sset S id (.box (eCells (l.set i x)))) := by
  have : i + 1 ≤ l.length := h
  simp [hS, this, cells_set]
theorem ia_ar {id o n : Nat} {k : IntKind} {i : Nat} (h : i < n) : iaD 1 (.ar 1 id o n) (.i k i) = some (.bx id (o + i)) := by
  have : (i : Int) < n := by omega
  simp [iaD, this]
@[simp] theorem len_ar (k id o n : Nat) : lenD false (.ar k id o n) = some (.i .i64 n) := (rfl)
theorem mksl_lims {S : Store} {n : Nat} (h : n ≤ maxLenD) : mkslV 1 true [.i .u32 0] S (.i .i64 n) = some (.ar 1 S.length 0 n, .box (eCells (List.replicate n 0)) :: S) := by
  have h1 : (n : Int) ≤ maxLenD := by omega
  simp [mkslV, h1, eCells]
theorem chunks_cells : ∀ (l : List Nat), chunks 1 l.length (eCells l) = l.map fun n : Nat => [D.i .u32 (n : Int)]
  | [] => rfl
  | x :: l => by simp [chunks, eCells] ; exact chunks_cells l
theorem fz_lims {S : Store} {id : Nat} {l : List Nat} (hS : sget S id = some (.box (eCells l))) : fzD (.ar 1 id 0 l.length) S = some (eLims false l .ro, sset S id .gone) := by
  simp only [fzD, hS, Nat.zero_add, Nat.mul_one, cells_len, Nat.le_refl, if_true, List.drop_zero, chunks_cells, eLims]

end Go.Proofs.YtjniafcnjbbomaaGreatDoor.DE.V
