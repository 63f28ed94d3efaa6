/-
  AN EVALUATOR ON DATA: values without memory (a slice is the list of its elements, a struct the list of its cells), a store of variables, a small code. Nothing of the program stands here.
-/
import GoSem.Dispatch
namespace Go.Proofs.YtjlmeikcfdanmaaGreatDoor.DE
open Go

/-- What may be appended to: nothing; the holder of an open row; a slice without any room. -/
inductive Own where
  | ro
  | tok (t : Nat)
  | cap0

/-- A value without memory. -/
inductive D where
  | top
  | b (x : Bool)
  | i (k : IntKind) (n : Int)
  | s (l : List UInt8)
  | sl (k : Nat) (nil : Bool) (xs : List (List D)) (o : Own)
  | agg (cs : List D)
  | tup (cs : List D)
  | bx (id off : Nat)
  | el (cs : List D) (off : Nat)
  | ar (k id off n : Nat)
  | nilp
  | nilm
  | mp (id : Nat)
  | fn (g : Nat) (cs : List D)

instance : Inhabited D := ⟨.top⟩

/-- An entry of the store. -/
inductive Ent where
  | box (cs : List D)
  | tok (alive : Bool)
  | map (es : List (D × D))
  | gone

abbrev Store := List Ent

def sget {α : Type} : List α → Nat → Option α
  | [], _ => none
  | e :: S, id => if id = S.length then some e else sget S id

def sset {α : Type} : List α → Nat → α → List α
  | [], _, _ => []
  | e :: S, id, x => if id = S.length then x :: S else e :: sset S id x

def fget : List D → Nat → D
  | [], _ => .top
  | d :: _, 0 => d
  | _ :: l, n + 1 => fget l n

def fset : List D → Nat → D → List D
  | [], _, _ => []
  | _ :: l, 0, v => v :: l
  | d :: l, n + 1, v => d :: fset l n v

def fsetO (fr : List D) : Option Nat → D → List D
  | none, _ => fr
  | some t, v => fset fr t v

def fkill : List D → List Nat → List D
  | fr, [] => fr
  | fr, t :: l => fkill (fset fr t .top) l

/-- An operand: a temporary or a constant. -/
inductive A where
  | t (n : Nat)
  | c (d : D)

def av (fr : List D) : A → D
  | .t n => fget fr n
  | .c d => d

def avs (fr : List D) : List A → List D
  | [] => []
  | x :: l => av fr x :: avs fr l

/-- A value that one cell holds. -/
def isCell : D → Bool
  | .top => false
  | .agg _ => false
  | .tup _ => false
  | _ => true

def allCell : List D → Bool
  | [] => true
  | d :: l => isCell d && allCell l

theorem allCell_get : ∀ {l : List D} {j : Nat} {d : D}, allCell l = true → l[j]? = some d → isCell d = true
  | [], _, _, _, h => by simp at h
  | x :: l, 0, d, hn, h => by
    simp only [allCell, Bool.and_eq_true] at hn
    simp at h; subst h; exact hn.1
  | x :: l, j + 1, d, hn, h => by
    simp only [allCell, Bool.and_eq_true] at hn
    exact allCell_get hn.2 (by simpa using h)

def cellsK (k : Nat) (g : Bool) (d : D) : Option (List D) :=
  match g with
  | true => match d with
    | .agg cs => if cs.length = k ∧ allCell cs = true then some cs else none
    | _ => none
  | false => if isCell d then some [d] else none

/-- What k cells from o on hold. -/
def rdK (cs : List D) (o k : Nat) (g : Bool) : Option D :=
  if g then (if o + k ≤ cs.length then some (.agg ((cs.drop o).take k)) else none) else cs[o]?

def splice (cs : List D) (o : Nat) : List D → List D
  | [] => cs
  | d :: l => splice (fset cs o d) (o + 1) l

/-- The kind of the operands of a comparison or an arithmetic operation. -/
inductive SK where
  | i | b | s

/-- The kind of a key: a scalar, or a struct or an array of scalars. -/
inductive KK where
  | one (k : SK)
  | agg (ks : List SK)

inductive Q where
  | num | str | bool | agg (ks : List SK) | sl | map

/-- The operations of a region. -/
inductive R where
  | mv (x : A)
  | nilck (x : A)
  | pick (c a b : A)
  | alloc (z : List D)
  | box (k : Nat) (g : Bool) (x : A)
  | bld (z : List D) (ps : List (Nat × Nat × Bool × A))
  | bsl (k : Nat) (g : Bool) (own : Bool) (xs : List A)
  | ld (k : Nat) (g : Bool) (a : A)
  | st (k : Nat) (g : Bool) (a v : A)
  | bin (op : BinOp) (q : Q) (x y : A)
  | un (op : UnOp) (x : A)
  | conv (k : IntKind) (x : A)
  | mkfn (g : Nat) (cs : List A)
  | mkmap
  | mksl (k : Nat) (arr : Bool) (z : List D) (n : A)
  | slc (k : Nat) (x : A) (lo hi : Option A)
  | slcs (x : A) (lo hi : Option A)
  | fa (o : Nat) (x : A)
  | fld (o k : Nat) (g : Bool) (x : A)
  | ia (k : Nat) (x i : A)
  | iaa (n k : Nat) (x i : A)
  | ixs (x i : A)
  | lk (kk : KK) (ok : Bool) (z : D) (m key : A)
  | mu (kk : KK) (m key v : A)
  | ment (kk : KK) (z : D) (m key : A)
  | est (m j v : A)
  | ext (x : A) (j : Nat)
  | len (str : Bool) (x : A)
  | app (k : Nat) (arr : Bool) (x y : A)
  | mx (x y : A)
  | mn (x y : A)
  | clr (k : Nat) (z : List D) (x : A)
  | call (g : Nat) (iso : Bool) (args : List A)
  | calld (f : A) (iso : Bool) (args : List A)
  | cmps (x y : A)

inductive I where
  | op (dst : Option Nat) (gd : Option (Nat × Bool)) (r : R)
  | fz (t : Nat)
  | ck (t : Nat) (r : R)

inductive C where
  | skip
  | reg (ops : List I) (kill : List Nat)
  | dreg (ops : List (Nat × I)) (kill : List Nat)
  | seq (a b : C)
  | cond (c : A) (a b : C)
  | blk (id : Nat) (c : C)
  | loop (kill : List Nat) (c : C)
  | exit (id : Nat)
  | ret
  | bad

inductive Ex where
  | normal
  | exit (id : Nat)
  | ret

inductive Res where
  | t (n : Nat)
  | cell (n k : Nat) (g : Bool)

structure Fn where
  real : Nat
  np : Nat
  nt : Nat
  res : List Res
  body : C

/-! Plain values: no address, no row. -/
mutual
def noRef : D → Bool
  | .top => true
  | .b _ => true
  | .i _ _ => true
  | .s _ => true
  | .sl _ _ xs o => (match o with | .tok _ => false | _ => true) && noRefLL xs
  | .agg cs => noRefL cs
  | .tup cs => noRefL cs
  | .bx _ _ => false
  | .el _ _ => false
  | .ar _ _ _ _ => false
  | .nilp => true
  | .nilm => true
  | .mp _ => false
  | .fn _ cs => noRefL cs
def noRefL : List D → Bool
  | [] => true
  | d :: l => noRef d && noRefL l
def noRefLL : List (List D) → Bool
  | [] => true
  | x :: l => noRefL x && noRefLL l
end

/-! Equality of values, reckoned. -/
def oeq : Own → Own → Bool
  | .ro, .ro => true
  | .tok a, .tok b => a == b
  | .cap0, .cap0 => true
  | _, _ => false
mutual
def deq : D → D → Bool
  | .top, .top => true
  | .b x, .b y => x == y
  | .i k x, .i l y => decide (k = l) && x == y
  | .s x, .s y => x == y
  | .sl k n xs o, .sl l m ys p => k == l && n == m && oeq o p && deqLL xs ys
  | .agg x, .agg y => deqL x y
  | .tup x, .tup y => deqL x y
  | .bx a b, .bx c d => a == c && b == d
  | .el x a, .el y b => a == b && deqL x y
  | .ar a b c d, .ar e f g h => a == e && b == f && c == g && d == h
  | .nilp, .nilp => true
  | .nilm, .nilm => true
  | .mp a, .mp b => a == b
  | .fn a x, .fn b y => a == b && deqL x y
  | _, _ => false
def deqL : List D → List D → Bool
  | [], [] => true
  | x :: l, y :: m => deq x y && deqL l m
  | _, _ => false
def deqLL : List (List D) → List (List D) → Bool
  | [], [] => true
  | x :: l, y :: m => deqL x y && deqLL l m
  | _, _ => false
end

def strip1 : D → D
  | .sl k n xs _ => .sl k n xs .ro
  | d => d

def strip1L : List D → List D
  | [] => []
  | d :: l => strip1 d :: strip1L l

/-- Without the right to append: a slice, and the slices in the cells of a struct. -/
def strip : D → D
  | .sl k n xs _ => .sl k n xs .ro
  | .agg cs => .agg (strip1L cs)
  | d => d

def stripL : List D → List D
  | [] => []
  | d :: l => strip d :: stripL l

def stripT : D → D
  | .tup cs => .tup (stripL cs)
  | d => strip d

/-- Equality of plain scalars and of lists of them. -/
def seq1 : D → D → Option Bool
  | .b x, .b y => some (x == y)
  | .i k x, .i k' y => if k = k' then some (x == y) else none
  | .s x, .s y => some (x == y)
  | _, _ => none

def isSK : SK → D → Bool
  | .i, .i _ _ => true
  | .b, .b _ => true
  | .s, .s _ => true
  | _, _ => false

def seqL : List SK → List D → List D → Option Bool
  | [], [], [] => some true
  | k :: ks, x :: l, y :: m => if isSK k x && isSK k y then (match seq1 x y, seqL ks l m with
    | some p, some q => some (p && q)
    | _, _ => none) else none
  | _, _, _ => none

def keq : KK → D → D → Option Bool
  | .agg ks, .agg xs, .agg ys => seqL ks xs ys
  | .one k, x, y => if isSK k x && isSK k y then seq1 x y else none
  | _, _, _ => none

def isSKL : List SK → List D → Bool
  | [], [] => true
  | k :: ks, x :: l => isSK k x && isSKL ks l
  | _, _ => false

/-- A key of this kind. -/
def isKey : KK → D → Bool
  | .agg ks, .agg xs => isSKL ks xs
  | .one k, x => isSK k x
  | _, _ => false

def intOp (op : BinOp) (k : IntKind) (x y : Int) : Option D :=
  match op with
  | .add => some (.i k (k.wrap (x + y)))
  | .sub => some (.i k (k.wrap (x - y)))
  | .mul => some (.i k (k.wrap (x * y)))
  | .quo => if y = 0 then none else some (.i k (k.wrap (x.tdiv y)))
  | .rem => if y = 0 then none else some (.i k (x.tmod y))
  | .and => some (.i k (k.wrap (BitVec.ofInt k.bits x &&& BitVec.ofInt k.bits y).toNat))
  | .or => some (.i k (k.wrap (BitVec.ofInt k.bits x ||| BitVec.ofInt k.bits y).toNat))
  | .xor => some (.i k (k.wrap (BitVec.ofInt k.bits x ^^^ BitVec.ofInt k.bits y).toNat))
  | .eql => some (.b (x == y))
  | .neq => some (.b (x != y))
  | .lss => some (.b (decide (x < y)))
  | .leq => some (.b (decide (x ≤ y)))
  | .gtr => some (.b (decide (x > y)))
  | .geq => some (.b (decide (x ≥ y)))
  | _ => none

def shOp (op : BinOp) (k : IntKind) (x y : Int) : Option D :=
  if y < 0 then none else
  match op with
  | .shl => some (.i k (k.wrap (x * 2 ^ (min y.toNat k.bits))))
  | .shr => some (.i k (x.fdiv (2 ^ (min y.toNat k.bits))))
  | _ => none

def eqD (op : BinOp) (r : Option Bool) : Option D :=
  match op, r with
  | .eql, some r => some (.b r)
  | .neq, some r => some (.b (!r))
  | _, _ => none

def binD (op : BinOp) (q : Q) (x y : D) : Option D :=
  match q, x, y with
  | .num, .i k a, .i k' b =>
    match op with
    | .shl => shOp .shl k a b
    | .shr => shOp .shr k a b
    | op => if k = k' then intOp op k a b else none
  | .str, .s a, .s b =>
    match op with
    | .add => if a.length + b.length ≤ 1048576 then some (.s (a ++ b)) else none
    | .eql => some (.b (a == b))
    | .neq => some (.b (!(a == b)))
    | .lss => some (.b (Op.bytesLess a b))
    | _ => none
  | .bool, .b a, .b b => eqD op (some (a == b))
  | .agg ks, .agg a, .agg b => eqD op (seqL ks a b)
  | .sl, .sl _ n _ _, .sl _ true _ _ => eqD op (some n)
  | .map, .nilm, .nilm => eqD op (some true)
  | .map, .mp _, .nilm => eqD op (some false)
  | _, _, _ => none

def unD (op : UnOp) (x : D) : Option D :=
  match op, x with
  | .not, .b x => some (.b (!x))
  | .neg, .i k n => some (.i k (k.wrap (0 - n)))
  | .xor, .i k n => intOp .xor k (if k.signed then -1 else k.max) n
  | _, _ => none

def maxLenD : Nat := 1048576

def chunks (k : Nat) : Nat → List D → List (List D)
  | 0, _ => []
  | n + 1, cs => cs.take k :: chunks k n (cs.drop k)

def intOf : D → Option Int
  | .i _ n => some n
  | _ => none

/-- The bounds of a slice expression; 'top' the length. -/
def bounds (n : Nat) (lo hi : Option D) : Option (Nat × Nat) :=
  match hi with
  | none => match lo with
    | none => some (0, n)
    | some (.i _ l) => if 0 ≤ l ∧ l ≤ n then some (l.toNat, n) else none
    | _ => none
  | some (.i _ h) => if 0 ≤ h ∧ h ≤ n then (match lo with
    | none => some (0, h.toNat)
    | some (.i _ l) => if 0 ≤ l ∧ l ≤ h then some (l.toNat, h.toNat) else none
    | _ => none) else none
  | _ => none

def lkD (kk : KK) (key : D) : List (D × D) → Option (Option D)
  | [] => some none
  | (k, v) :: es => match keq kk key k with
    | some true => some (some v)
    | some false => lkD kk key es
    | none => none

def muD (kk : KK) (key v : D) : List (D × D) → Option (List (D × D))
  | [] => some [(key, v)]
  | (k, u) :: es => match keq kk key k with
    | some true => some ((key, v) :: es)
    | some false => (muD kk key v es).map ((k, u) :: ·)
    | none => none

def posD (kk : KK) (key : D) : List (D × D) → Nat → Option (Option Nat)
  | [], _ => some none
  | (k, _) :: es, j => match keq kk key k with
    | some true => some (some j)
    | some false => posD kk key es (j + 1)
    | none => none

def putD (key : D) : Nat → List (D × D) → List (D × D)
  | _, [] => []
  | 0, (_, v) :: es => (key, v) :: es
  | j + 1, e :: es => e :: putD key j es

def valD (v : D) : Nat → List (D × D) → List (D × D)
  | _, [] => []
  | 0, (k, _) :: es => (k, v) :: es
  | j + 1, e :: es => e :: valD v j es

/-- The parts of a struct literal laid into the zero value. -/
def bldD (fr : List D) (z : List D) : List (Nat × Nat × Bool × A) → Option (List D)
  | [] => some z
  | (o, k, g, x) :: ps => match cellsK k g (av fr x) with
    | some cs => if o + k ≤ z.length then bldD fr (splice z o cs) ps else none
    | none => none

def cellsAll (fr : List D) (k : Nat) (g : Bool) : List A → Option (List (List D))
  | [] => some []
  | x :: l => match cellsK k g (av fr x), cellsAll fr k g l with
    | some cs, some r => some (cs :: r)
    | _, _ => none

abbrev CallF := Nat → List D → Store → Option (D × Store)

/-- A call of its own store: plain arguments, a plain result. -/
def isoCall (call : CallF) (g : Nat) (args : List D) : Option D :=
  if noRefL (stripL args) then
    match call g (stripL args) [] with
    | some (r, _) => if noRef (stripT r) then some (stripT r) else none
    | none => none
  else none

def callR (call : CallF) (g : Nat) (iso : Bool) (args : List D) (S : Store) : Option (D × Store) :=
  if iso then (isoCall call g args).map fun r => (r, S) else call g args S

def appD (k : Nat) (arr : Bool) (x y : D) (S : Store) : Option (D × Store) :=
  match x, y with
  | .sl k1 nil xs o, .sl k2 _ ys _ =>
    if k1 = k ∧ (k2 = k ∨ ys = []) ∧ xs.length + ys.length ≤ maxLenD then
      match o with
      | .tok t => match sget S t with
        | some (.tok true) => if arr || nil then none else some (.sl k false (xs ++ ys) (.tok S.length), .tok true :: sset S t (.tok false))
        | _ => none
      | o =>
        if (match o with | .cap0 => true | _ => nil) then
          (if ys.isEmpty then some (x, S)
          else if arr then some (.ar k S.length 0 ys.length, .box ys.flatten :: S)
          else some (.sl k false ys (.tok S.length), .tok true :: S))
        else none
    else none
  | _, _ => none

def ldD (S : Store) (k : Nat) (g : Bool) : D → Option D
  | .bx id o => match sget S id with
    | some (.box cs) => rdK cs o k g
    | _ => none
  | .el cs o => rdK cs o k g
  | _ => none

def stD (S : Store) (k : Nat) (g : Bool) (a v : D) : Option Store :=
  match a with
  | .bx id o => match sget S id with
    | some (.box cs) => match cellsK k g v with
      | some l => if o + k ≤ cs.length then some (sset S id (.box (splice cs o l))) else none
      | none => none
    | _ => none
  | _ => none

def iaD (k : Nat) (x i : D) : Option D :=
  match x, i with
  | .sl k' _ xs _, .i _ n => if 0 ≤ n ∧ k' = k then (xs[n.toNat]?).map fun cs => .el cs 0 else none
  | .ar k' id o m, .i _ n => if 0 ≤ n ∧ n < m ∧ k' = k then some (.bx id (o + n.toNat * k)) else none
  | _, _ => none

def slcD (k : Nat) (x : D) (lo hi : Option D) : Option D :=
  match x with
  | .sl k' nil xs _ =>
    if k' = k then (match bounds xs.length lo hi with
      | some (l, h) => some (.sl k nil ((xs.drop l).take (h - l)) .ro)
      | none => none) else none
  | .ar k' id o n =>
    if k' = k then (match bounds n lo hi with
      | some (l, h) => if h = l then some (.sl k false [] .ro) else some (.ar k id (o + l * k) (h - l))
      | none => none) else none
  | _ => none

def slcsD (x : D) (lo hi : Option D) : Option D :=
  match x with
  | .s l => match bounds l.length lo hi with
      | some (p, q) => some (.s ((l.drop p).take (q - p)))
      | none => none
  | _ => none

def avo (fr : List D) : Option A → Option D
  | none => none
  | some x => some (av fr x)

def evR (call : CallF) (fr : List D) (S : Store) : R → Option (D × Store)
  | .mv x => some (av fr x, S)
  | .nilck x => match av fr x with
    | .bx i o => some (.bx i o, S)
    | .el c o => some (.el c o, S)
    | .fn g c => some (.fn g c, S)
    | _ => none
  | .pick c a b => match av fr c with
    | .b x => some (if x then av fr a else av fr b, S)
    | _ => none
  | .alloc z => some (.bx S.length 0, .box z :: S)
  | .box k g x => (cellsK k g (av fr x)).map fun cs => (.bx S.length 0, .box cs :: S)
  | .bld z ps => (bldD fr z ps).map fun cs => (.agg cs, S)
  | .bsl k g own xs => (cellsAll fr k g xs).map fun l =>
      if own then (if l.isEmpty then (.sl k false [] .cap0, S) else (.sl k false l (.tok S.length), .tok true :: S)) else (.sl k false l .ro, S)
  | .ld k g a => (ldD S k g (av fr a)).map fun d => (d, S)
  | .st k g a v => (stD S k g (av fr a) (av fr v)).map fun S' => (.tup [], S')
  | .bin op q x y => (binD op q (av fr x) (av fr y)).map fun d => (d, S)
  | .un op x => (unD op (av fr x)).map fun d => (d, S)
  | .conv k x => match av fr x with
    | .i _ n => some (.i k (k.wrap n), S)
    | _ => none
  | .mkfn g cs => some (.fn g (avs fr cs), S)
  | .mkmap => some (.mp S.length, .map [] :: S)
  | .mksl k arr z n => match av fr n with
    | .i _ m => if 0 ≤ m ∧ m ≤ maxLenD then
        (if arr then some (.ar k S.length 0 m.toNat, .box (List.replicate m.toNat z).flatten :: S)
        else (if m = 0 then some (.sl k false [] .cap0, S) else some (.sl k false (List.replicate m.toNat z) (.tok S.length), .tok true :: S))) else none
    | _ => none
  | .slc k x lo hi => (slcD k (av fr x) (avo fr lo) (avo fr hi)).map fun d => (d, S)
  | .slcs x lo hi => (slcsD (av fr x) (avo fr lo) (avo fr hi)).map fun d => (d, S)
  | .fa o x => match av fr x with
    | .bx id p => some (.bx id (p + o), S)
    | .el cs p => some (.el cs (p + o), S)
    | _ => none
  | .fld o k g x => match av fr x with
    | .agg cs => (rdK cs o k g).map fun d => (d, S)
    | _ => none
  | .ia k x i => (iaD k (av fr x) (av fr i)).map fun d => (d, S)
  | .iaa n k x i => match av fr x, av fr i with
    | .bx id o, .i _ m => if 0 ≤ m ∧ m < n then some (.bx id (o + m.toNat * k), S) else none
    | _, _ => none
  | .ixs x i => match av fr x, av fr i with
    | .s l, .i _ m => if 0 ≤ m then (l[m.toNat]?).map fun c => (.i .u8 c.toNat, S) else none
    | _, _ => none
  | .lk kk ok z m key => if isKey kk (av fr key) then
      (match av fr m with
      | .nilm => some (if ok then .tup [z, .b false] else z, S)
      | .mp id => match sget S id with
        | some (.map es) => match lkD kk (av fr key) es with
          | some (some v) => some (if ok then .tup [v, .b true] else v, S)
          | some none => some (if ok then .tup [z, .b false] else z, S)
          | none => none
        | _ => none
      | _ => none) else none
  | .mu kk m key v => if isKey kk (av fr key) then
      (match av fr m with
      | .mp id => match sget S id with
        | some (.map es) => (muD kk (av fr key) (av fr v) es).map fun es' => (.tup [], sset S id (.map es'))
        | _ => none
      | _ => none) else none
  | .ment kk z m key => if isKey kk (av fr key) then
      (match av fr m with
      | .mp id => match sget S id with
        | some (.map es) => match posD kk (av fr key) es 0 with
          | some (some j) => match es[j]? with
            | some e => some (.tup [e.2, .i .i64 j], sset S id (.map (putD (av fr key) j es)))
            | none => none
          | some none => some (.tup [z, .i .i64 es.length], sset S id (.map (es ++ [(av fr key, z)])))
          | none => none
        | _ => none
      | _ => none) else none
  | .est m j v => match av fr m, av fr j with
    | .mp id, .i _ n => match sget S id with
      | some (.map es) => if 0 ≤ n ∧ n < es.length then some (.tup [], sset S id (.map (valD (av fr v) n.toNat es))) else none
      | _ => none
    | _, _ => none
  | .ext x j => match av fr x with
    | .tup cs => (cs[j]?).map fun d => (d, S)
    | _ => none
  | .len str x => match str, av fr x with
    | false, .sl _ _ xs _ => some (.i .i64 xs.length, S)
    | false, .ar _ _ _ n => some (.i .i64 n, S)
    | true, .s l => some (.i .i64 l.length, S)
    | _, _ => none
  | .app k arr x y => appD k arr (av fr x) (av fr y) S
  | .mx x y => match av fr x, av fr y with
    | .i k a, .i k' b => if k = k' then some (.i k (if b > a then b else a), S) else none
    | _, _ => none
  | .mn x y => match av fr x, av fr y with
    | .i k a, .i k' b => if k = k' then some (.i k (if b < a then b else a), S) else none
    | _, _ => none
  | .clr k z x => match av fr x with
    | .ar k' id o n => if k' = k ∧ z.length = k then (match sget S id with
      | some (.box cs) => if o + n * k ≤ cs.length then some (.tup [], sset S id (.box (splice cs o (List.replicate n z).flatten))) else none
      | _ => none) else none
    | .sl _ _ [] _ => some (.tup [], S)
    | _ => none
  | .call g iso args => callR call g iso (avs fr args) S
  | .calld f iso args => match av fr f with
    | .fn g cs => callR call g iso (avs fr args ++ cs) S
    | _ => none
  | .cmps x y => match av fr x, av fr y with
    | .s a, .s b => some (.i .i64 (if Op.bytesLess a b then -1 else if a == b then 0 else 1), S)
    | _, _ => none

/-- Is the operation carried out? -/
def wanted (fr : List D) : Option (Nat × Bool) → Option Bool
  | none => some true
  | some (t, w) => match fget fr t with
    | .b x => some (x == w)
    | .tup [] => some false
    | _ => none

def fzD (d : D) (S : Store) : Option (D × Store) :=
  match d with
  | .ar k id o n => match sget S id with
    | some (.box cs) => if o + n * k ≤ cs.length then some (.sl k false (chunks k n (cs.drop o)) .ro, sset S id .gone) else none
    | _ => none
  | .sl k nil xs o => some (.sl k nil xs o, S)
  | _ => none

def evI (call : CallF) (fr : List D) (S : Store) : I → Option (List D × Store)
  | .op dst gd r => match wanted fr gd with
    | some true => (evR call fr S r).map fun (d, S') => (fsetO fr dst d, S')
    | some false => some (fsetO fr dst (.tup []), S)
    | none => none
  | .fz t => (fzD (fget fr t) S).map fun (d, S') => (fset fr t d, S')
  | .ck t r => match evR call fr S r with
    | some (d, _) => if deq d (fget fr t) then some (fr, S) else none
    | none => none

def evIs (call : CallF) : List D → Store → List I → Option (List D × Store)
  | fr, S, [] => some (fr, S)
  | fr, S, o :: os => match evI call fr S o with
    | some (fr', S') => evIs call fr' S' os
    | none => none

abbrev Out := Ex × List D × Store

def snds : List (Nat × I) → List I
  | [] => []
  | (_, o) :: l => o :: snds l

def iter (f : List D → Store → Option Out) : Nat → List D → Store → Option Out
  | 0, _, _ => none
  | n + 1, fr, S => match f fr S with
    | some (.normal, fr', S') => iter f n fr' S'
    | r => r

/-- The code, with a bound on the rounds of each loop. -/
def exec (call : CallF) (n : Nat) : C → List D → Store → Option Out
  | .skip, fr, S => some (.normal, fr, S)
  | .reg ops kill, fr, S => match evIs call fr S ops with
    | some (fr', S') => some (.normal, fkill fr' kill, S')
    | none => none
  | .dreg ops kill, fr, S => match evIs call fr S (snds ops) with
    | some (fr', S') => some (.normal, fkill fr' kill, S')
    | none => none
  | .seq a b, fr, S => match exec call n a fr S with
    | some (.normal, fr', S') => exec call n b fr' S'
    | r => r
  | .cond c a b, fr, S => match av fr c with
    | .b true => exec call n a fr S
    | .b false => exec call n b fr S
    | _ => none
  | .blk id c, fr, S => match exec call n c fr S with
    | some (.exit j, fr', S') => some (if j = id then .normal else .exit j, fr', S')
    | r => r
  | .loop kl c, fr, S => iter (fun fr S => exec call n c (fkill fr kl) S) n fr S
  | .exit id, fr, S => some (.exit id, fr, S)
  | .ret, fr, S => some (.ret, fr, S)
  | .bad, _, _ => none

def res1 (fr : List D) (S : Store) : Res → Option D
  | .t n => some (fget fr n)
  | .cell n k g => match fget fr n with
    | .bx id o => ldD S k g (.bx id o)
    | _ => none

def resL (fr : List D) (S : Store) : List Res → Option (List D)
  | [] => some []
  | r :: l => match res1 fr S r, resL fr S l with
    | some d, some m => some (d :: m)
    | _, _ => none

def resD : List D → D
  | [d] => d
  | l => .tup l

def finish (f : Fn) : Option Out → Option (D × Store)
  | some (.normal, fr, S) => (resL fr S f.res).map fun l => (resD l, S)
  | some (.ret, fr, S) => (resL fr S f.res).map fun l => (resD l, S)
  | _ => none

def frame0 (f : Fn) (args : List D) : List D := args ++ List.replicate (f.nt - f.np) .top

def callN (dp : Nat → Option Fn) : Nat → CallF
  | 0, _, _, _ => none
  | n + 1, g, args, S => match dp g with
    | some f => if args.length = f.np ∧ f.np ≤ f.nt then finish f (exec (callN dp n) n f.body (frame0 f args) S) else none
    | none => none

end Go.Proofs.YtjlmeikcfdanmaaGreatDoor.DE
