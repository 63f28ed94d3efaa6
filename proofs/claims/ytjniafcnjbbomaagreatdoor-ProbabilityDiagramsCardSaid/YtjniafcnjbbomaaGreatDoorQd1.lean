/-
  SEVERAL TEXTS IN ONE (joined by tools/asm3.py of this repository): De1, De2, De3, De4, De5, De6, De7, De8, De9, De10, De11, De12, De13, De14.
-/
import GoSem.Dispatch
import Derived.Laws.World
import Derived.Laws.Sem
import Derived.Laws.Cells
import Derived.Calls
import GoSem.Extern.BytealgCompare
import Derived.Laws.StructEq
import Derived.Laws.Entries
import Derived.Laws.OwnMore
import Derived.Great.BuildSlice
import Derived.Laws.Externs
set_option linter.unusedVariables false
set_option linter.unusedSimpArgs false
namespace Go.Proofs.YtjniafcnjbbomaaGreatDoor.DE
open Go
inductive Own where
 | ro
 | tok (t:Nat)
 | cap0
inductive D where
 | top
 | b (x:Bool)
 | i (k:IntKind) (n:Int)
 | s (l:List UInt8)
 | sl (k:Nat) (nil:Bool) (xs:List (List D)) (o:Own)
 | agg (cs:List D)
 | tup (cs:List D)
 | bx (id off:Nat)
 | el (cs:List D) (off:Nat)
 | ar (k id off n:Nat)
 | nilp
 | nilm
 | mp (id:Nat)
 | fn (g:Nat) (cs:List D)
instance:Inhabited D:=⟨.top⟩
inductive Ent where
 | box (cs:List D)
 | tok (alive:Bool)
 | map (es:List (D × D))
 | gone
abbrev Store:=List Ent
def sget {α:Type}:List α→Nat→Option α
 | [],_=>none
 | e::S,id=>if id=S.length then some e else sget S id
def sset {α:Type}:List α→Nat→α→List α
 | [],_,_=>[]
 | e::S,id,x=>if id=S.length then x::S else e::sset S id x
def fget:List D→Nat→D
 | [],_=>.top
 | d::_,0=>d
 | _::l,n+1=>fget l n
def fset:List D→Nat→D→List D
 | [],_,_=>[]
 | _::l,0,v=>v::l
 | d::l,n+1,v=>d::fset l n v
def fsetO (fr:List D):Option Nat→D→List D
 | none,_=>fr
 | some t,v=>fset fr t v
def fkill:List D→List Nat→List D
 | fr,[]=>fr
 | fr,t::l=>fkill (fset fr t .top) l
inductive A where
 | t (n:Nat)
 | c (d:D)
def av (fr:List D):A→D
 | .t n=>fget fr n
 | .c d=>d
def avs (fr:List D):List A→List D
 | []=>[]
 | x::l=>av fr x::avs fr l
def isCell:D→Bool
 | .top=>false
 | .agg _=>false
 | .tup _=>false
 | _=>true
def allCell:List D→Bool
 | []=>true
 | d::l=>isCell d&&allCell l
theorem allCell_get:∀ {l:List D} {j:Nat} {d:D},allCell l=true→l[j]? = some d→isCell d=true
 | [],_,_,_,h=>by simp at h
 | x::l,0,d,hn,h=>by
  simp only [allCell,Bool.and_eq_true] at hn
  simp at h;subst h;exact hn.1
 | x::l,j+1,d,hn,h=>by
  simp only [allCell,Bool.and_eq_true] at hn
  exact allCell_get hn.2 (by simpa using h)
def cellsK (k:Nat) (g:Bool) (d:D):Option (List D):=
 match g with
 | true=>match d with
  | .agg cs=>if cs.length=k∧allCell cs=true then some cs else none
  | _=>none
 | false=>if isCell d then some [d] else none
def rdK (cs:List D) (o k:Nat) (g:Bool):Option D:=
 if g then (if o+k≤cs.length then some (.agg ((cs.drop o).take k)) else none) else cs[o]?
def splice (cs:List D) (o:Nat):List D→List D
 | []=>cs
 | d::l=>splice (fset cs o d) (o+1) l
inductive SK where
 | i | b | s
inductive KK where
 | one (k:SK)
 | agg (ks:List SK)
inductive Q where
 | num | str | bool | agg (ks:List SK) | sl | map
inductive R where
 | mv (x:A)
 | nilck (x:A)
 | pick (c a b:A)
 | alloc (z:List D)
 | box (k:Nat) (g:Bool) (x:A)
 | bld (z:List D) (ps:List (Nat × Nat × Bool × A))
 | bsl (k:Nat) (g:Bool) (own:Bool) (xs:List A)
 | bsa (k:Nat) (g:Bool) (xs:List A)
 | ld (k:Nat) (g:Bool) (a:A)
 | st (k:Nat) (g:Bool) (a v:A)
 | bin (op:BinOp) (q:Q) (x y:A)
 | un (op:UnOp) (x:A)
 | conv (k:IntKind) (x:A)
 | mkfn (g:Nat) (cs:List A)
 | mkmap
 | mksl (k:Nat) (arr:Bool) (z:List D) (n:A)
 | slc (k:Nat) (x:A) (lo hi:Option A)
 | slcs (x:A) (lo hi:Option A)
 | fa (o:Nat) (x:A)
 | fld (o k:Nat) (g:Bool) (x:A)
 | ia (k:Nat) (x i:A)
 | iaa (n k:Nat) (x i:A)
 | ixs (x i:A)
 | lk (kk:KK) (ok:Bool) (z:D) (m key:A)
 | mu (kk:KK) (m key v:A)
 | ment (kk:KK) (z:D) (m key:A)
 | est (m j v:A)
 | ext (x:A) (j:Nat)
 | len (str:Bool) (x:A)
 | app (k:Nat) (arr:Bool) (x y:A)
 | mx (x y:A)
 | mn (x y:A)
 | clr (k:Nat) (z:List D) (x:A)
 | call (g:Nat) (iso:Bool) (args:List A)
 | calld (f:A) (iso:Bool) (args:List A)
 | cmps (x y:A)
inductive I where
 | op (dst:Option Nat) (gd:Option (Nat × Bool)) (r:R)
 | fz (t:Nat)
 | ck (t:Nat) (r:R)
inductive C where
 | skip
 | reg (ops:List I) (kill:List Nat)
 | dreg (ops:List (Nat × I)) (kill:List Nat)
 | seq (a b:C)
 | cond (c:A) (a b:C)
 | blk (id:Nat) (c:C)
 | loop (kill:List Nat) (c:C)
 | exit (id:Nat)
 | ret
 | bad
inductive Ex where
 | normal
 | exit (id:Nat)
 | ret
inductive Res where
 | t (n:Nat)
 | cell (n k:Nat) (g:Bool)
structure Fn where
 real:Nat
 np:Nat
 nt:Nat
 res:List Res
 body:C
mutual
def noRef:D→Bool
 | .top=>true
 | .b _=>true
 | .i _ _=>true
 | .s _=>true
 | .sl _ _ xs o=>(match o with | .tok _=>false | _=>true)&&noRefLL xs
 | .agg cs=>noRefL cs
 | .tup cs=>noRefL cs
 | .bx _ _=>false
 | .el _ _=>false
 | .ar _ _ _ _=>false
 | .nilp=>true
 | .nilm=>true
 | .mp _=>false
 | .fn _ cs=>noRefL cs
def noRefL:List D→Bool
 | []=>true
 | d::l=>noRef d&&noRefL l
def noRefLL:List (List D)→Bool
 | []=>true
 | x::l=>noRefL x&&noRefLL l
end
def oeq:Own→Own→Bool
 | .ro,.ro=>true
 | .tok a,.tok b=>a == b
 | .cap0,.cap0=>true
 | _,_=>false
mutual
def deq:D→D→Bool
 | .top,.top=>true
 | .b x,.b y=>x == y
 | .i k x,.i l y=>decide (k=l)&&x == y
 | .s x,.s y=>x == y
 | .sl k n xs o,.sl l m ys p=>k == l&&n == m&&oeq o p&&deqLL xs ys
 | .agg x,.agg y=>deqL x y
 | .tup x,.tup y=>deqL x y
 | .bx a b,.bx c d=>a == c&&b == d
 | .el x a,.el y b=>a == b&&deqL x y
 | .ar a b c d,.ar e f g h=>a == e&&b == f&&c == g&&d == h
 | .nilp,.nilp=>true
 | .nilm,.nilm=>true
 | .mp a,.mp b=>a == b
 | .fn a x,.fn b y=>a == b&&deqL x y
 | _,_=>false
def deqL:List D→List D→Bool
 | [],[]=>true
 | x::l,y::m=>deq x y&&deqL l m
 | _,_=>false
def deqLL:List (List D)→List (List D)→Bool
 | [],[]=>true
 | x::l,y::m=>deqL x y&&deqLL l m
 | _,_=>false
end
def strip1:D→D
 | .sl k n xs _=>.sl k n xs .ro
 | d=>d
def strip1L:List D→List D
 | []=>[]
 | d::l=>strip1 d::strip1L l
def strip:D→D
 | .sl k n xs _=>.sl k n xs .ro
 | .agg cs=>.agg (strip1L cs)
 | d=>d
def stripL:List D→List D
 | []=>[]
 | d::l=>strip d::stripL l
def stripT:D→D
 | .tup cs=>.tup (stripL cs)
 | d=>strip d
def seq1:D→D→Option Bool
 | .b x,.b y=>some (x == y)
 | .i k x,.i k' y=>if k=k' then some (x == y) else none
 | .s x,.s y=>some (x == y)
 | _,_=>none
def isSK:SK→D→Bool
 | .i,.i _ _=>true
 | .b,.b _=>true
 | .s,.s _=>true
 | _,_=>false
def seqL:List SK→List D→List D→Option Bool
 | [],[],[]=>some true
 | k::ks,x::l,y::m=>if isSK k x&&isSK k y then (match seq1 x y,seqL ks l m with
  | some p,some q=>some (p&&q)
  | _,_=>none) else none
 | _,_,_=>none
def keq:KK→D→D→Option Bool
 | .agg ks,.agg xs,.agg ys=>seqL ks xs ys
 | .one k,x,y=>if isSK k x&&isSK k y then seq1 x y else none
 | _,_,_=>none
def isSKL:List SK→List D→Bool
 | [],[]=>true
 | k::ks,x::l=>isSK k x&&isSKL ks l
 | _,_=>false
def isKey:KK→D→Bool
 | .agg ks,.agg xs=>isSKL ks xs
 | .one k,x=>isSK k x
 | _,_=>false
def intOp (op:BinOp) (k:IntKind) (x y:Int):Option D:=
 match op with
 | .add=>some (.i k (k.wrap (x+y)))
 | .sub=>some (.i k (k.wrap (x-y)))
 | .mul=>some (.i k (k.wrap (x * y)))
 | .quo=>if y=0 then none else some (.i k (k.wrap (x.tdiv y)))
 | .rem=>if y=0 then none else some (.i k (x.tmod y))
 | .and=>some (.i k (k.wrap (BitVec.ofInt k.bits x &&& BitVec.ofInt k.bits y).toNat))
 | .or=>some (.i k (k.wrap (BitVec.ofInt k.bits x ||| BitVec.ofInt k.bits y).toNat))
 | .xor=>some (.i k (k.wrap (BitVec.ofInt k.bits x ^^^ BitVec.ofInt k.bits y).toNat))
 | .eql=>some (.b (x == y))
 | .neq=>some (.b (x != y))
 | .lss=>some (.b (decide (x<y)))
 | .leq=>some (.b (decide (x≤y)))
 | .gtr=>some (.b (decide (x > y)))
 | .geq=>some (.b (decide (x ≥ y)))
 | _=>none
def shOp (op:BinOp) (k:IntKind) (x y:Int):Option D:=
 if y<0 then none else
 match op with
 | .shl=>some (.i k (k.wrap (x * 2 ^ (min y.toNat k.bits))))
 | .shr=>some (.i k (x.fdiv (2 ^ (min y.toNat k.bits))))
 | _=>none
def eqD (op:BinOp) (r:Option Bool):Option D:=
 match op,r with
 | .eql,some r=>some (.b r)
 | .neq,some r=>some (.b (!r))
 | _,_=>none
def binD (op:BinOp) (q:Q) (x y:D):Option D:=
 match q,x,y with
 | .num,.i k a,.i k' b=>
  match op with
  | .shl=>shOp .shl k a b
  | .shr=>shOp .shr k a b
  | op=>if k=k' then intOp op k a b else none
 | .str,.s a,.s b=>
  match op with
  | .add=>if a.length+b.length≤1048576 then some (.s (a++b)) else none
  | .eql=>some (.b (a == b))
  | .neq=>some (.b (!(a == b)))
  | .lss=>some (.b (Op.bytesLess a b))
  | _=>none
 | .bool,.b a,.b b=>eqD op (some (a == b))
 | .agg ks,.agg a,.agg b=>eqD op (seqL ks a b)
 | .sl,.sl _ n _ _,.sl _ true _ _=>eqD op (some n)
 | .map,.nilm,.nilm=>eqD op (some true)
 | .map,.mp _,.nilm=>eqD op (some false)
 | _,_,_=>none
def unD (op:UnOp) (x:D):Option D:=
 match op,x with
 | .not,.b x=>some (.b (!x))
 | .neg,.i k n=>some (.i k (k.wrap (0-n)))
 | .xor,.i k n=>intOp .xor k (if k.signed then -1 else k.max) n
 | _,_=>none
def maxLenD:Nat:=1048576
def chunks (k:Nat):Nat→List D→List (List D)
 | 0,_=>[]
 | n+1,cs=>cs.take k::chunks k n (cs.drop k)
def intOf:D→Option Int
 | .i _ n=>some n
 | _=>none
def bounds (n:Nat) (lo hi:Option D):Option (Nat × Nat):=
 match hi with
 | none=>match lo with
  | none=>some (0,n)
  | some (.i _ l)=>if 0≤l∧l≤n then some (l.toNat,n) else none
  | _=>none
 | some (.i _ h)=>if 0≤h∧h≤n then (match lo with
  | none=>some (0,h.toNat)
  | some (.i _ l)=>if 0≤l∧l≤h then some (l.toNat,h.toNat) else none
  | _=>none) else none
 | _=>none
def lkD (kk:KK) (key:D):List (D × D)→Option (Option D)
 | []=>some none
 | (k,v)::es=>match keq kk key k with
  | some true=>some (some v)
  | some false=>lkD kk key es
  | none=>none
def muD (kk:KK) (key v:D):List (D × D)→Option (List (D × D))
 | []=>some [(key,v)]
 | (k,u)::es=>match keq kk key k with
  | some true=>some ((key,v)::es)
  | some false=>(muD kk key v es).map ((k,u) :: ·)
  | none=>none
def posD (kk:KK) (key:D):List (D × D)→Nat→Option (Option Nat)
 | [],_=>some none
 | (k,_)::es,j=>match keq kk key k with
  | some true=>some (some j)
  | some false=>posD kk key es (j+1)
  | none=>none
def putD (key:D):Nat→List (D × D)→List (D × D)
 | _,[]=>[]
 | 0,(_,v)::es=>(key,v)::es
 | j+1,e::es=>e::putD key j es
def valD (v:D):Nat→List (D × D)→List (D × D)
 | _,[]=>[]
 | 0,(k,_)::es=>(k,v)::es
 | j+1,e::es=>e::valD v j es
def bldD (fr:List D) (z:List D):List (Nat × Nat × Bool × A)→Option (List D)
 | []=>some z
 | (o,k,g,x)::ps=>match cellsK k g (av fr x) with
  | some cs=>if o+k≤z.length then bldD fr (splice z o cs) ps else none
  | none=>none
def cellsAll (fr:List D) (k:Nat) (g:Bool):List A→Option (List (List D))
 | []=>some []
 | x::l=>match cellsK k g (av fr x),cellsAll fr k g l with
  | some cs,some r=>some (cs::r)
  | _,_=>none
abbrev CallF:=Nat→List D→Store→Option (D × Store)
def isoCall (call:CallF) (g:Nat) (args:List D):Option D:=
 if noRefL (stripL args) then
  match call g (stripL args) [] with
  | some (r,_)=>if noRef (stripT r) then some (stripT r) else none
  | none=>none
 else none
def callR (call:CallF) (g:Nat) (iso:Bool) (args:List D) (S:Store):Option (D × Store):=
 if iso then (isoCall call g args).map fun r=>(r,S) else call g args S
def appA (k id n:Nat) (ys:List (List D)) (S:Store):Option (D × Store):=
 match sget S id with
 | some (.box cs)=>if n * k≤cs.length then some (.ar k S.length 0 (n+ys.length),.box (cs.take (n * k)++ys.flatten)::sset S id .gone) else none
 | _=>none
def appD (
     k:Nat) (arr:Bool) (x y:D) (S:Store):Option (D × Store):=
 match x,y with
 | .ar k1 id o n,.sl k2 _ ys _=>if k1=k∧(k2=k∨ys=[])∧n+ys.length≤maxLenD∧o=0 then appA k id n ys S else none
 | .sl k1 nil xs o,.sl k2 _ ys _=>
  if k1=k∧(k2=k∨ys=[])∧xs.length+ys.length≤maxLenD then
   match o with
   | .tok t=>match sget S t with
    | some (.tok true)=>if arr || nil then none else some (.sl k false (xs++ys) (.tok S.length),.tok true::sset S t (.tok false))
    | _=>none
   | o=>
    if (match o with | .cap0=>true | _=>nil) then
     (if ys.isEmpty then some (x,S)
     else if arr then some (.ar k S.length 0 ys.length,.box ys.flatten::S)
     else some (.sl k false ys (.tok S.length),.tok true::S))
    else none
  else none
 | _,_=>none
def ldD (S:Store) (k:Nat) (g:Bool):D→Option D
 | .bx id o=>match sget S id with
  | some (.box cs)=>rdK cs o k g
  | _=>none
 | .el cs o=>rdK cs o k g
 | _=>none
def stD (S:Store) (k:Nat) (g:Bool) (a v:D):Option Store:=
 match a with
 | .bx id o=>match sget S id with
  | some (.box cs)=>match cellsK k g v with
   | some l=>if o+k≤cs.length then some (sset S id (.box (splice cs o l))) else none
   | none=>none
  | _=>none
 | _=>none
def iaD (k:Nat) (x i:D):Option D:=
 match x,i with
 | .sl k' _ xs _,.i _ n=>if 0≤n∧k'=k then (xs[n.toNat]?).map fun cs=>.el cs 0 else none
 | .ar k' id o m,.i _ n=>if 0≤n∧n<m∧k'=k then some (.bx id (o+n.toNat * k)) else none
 | _,_=>none
def slcD (k:Nat) (x:D) (lo hi:Option D):Option D:=
 match x with
 | .sl k' nil xs _=>
  if k'=k then (match bounds xs.length lo hi with
   | some (l,h)=>some (.sl k nil ((xs.drop l).take (h-l)) .ro)
   | none=>none) else none
 | .ar k' id o n=>
  if k'=k then (match bounds n lo hi with
   | some (l,h)=>if h=l then some (.sl k false [] .ro) else some (.ar k id (o+l * k) (h-l))
   | none=>none) else none
 | _=>none
def slcsD (x:D) (lo hi:Option D):Option D:=
 match x with
 | .s l=>match bounds l.length lo hi with
   | some (p,q)=>some (.s ((l.drop p).take (q-p)))
   | none=>none
 | _=>none
def avo (fr:List D):Option A→Option D
 | none=>none
 | some x=>some (av fr x)
def evR (call:CallF) (fr:List D) (S:Store):R→Option (D × Store)
 | .mv x=>some (av fr x,S)
 | .nilck x=>match av fr x with
  | .bx i o=>some (.bx i o,S)
  | .el c o=>some (.el c o,S)
  | .fn g c=>some (.fn g c,S)
  | _=>none
 | .pick c a b=>match av fr c with
  | .b x=>some (if x then av fr a else av fr b,S)
  | _=>none
 | .alloc z=>some (.bx S.length 0,.box z::S)
 | .box k g x=>(cellsK k g (av fr x)).map fun cs=>(.bx S.length 0,.box cs::S)
 | .bld z ps=>(bldD fr z ps).map fun cs=>(.agg cs,S)
 | .bsl k g own xs=>(cellsAll fr k g xs).map fun l=>
   if own then (if l.isEmpty then (.sl k false [] .cap0,S) else (.sl k false l (.tok S.length),.tok true::S)) else (.sl k false l .ro,S)
 | .bsa k g xs=>(cellsAll fr k g xs).map fun l=>(.ar k S.length 0 l.length,.box l.flatten::S)
 | .ld k g a=>(ldD S k g (av fr a)).map fun d=>(d,S)
 | .st k g a v=>(stD S k g (av fr a) (av fr v)).map fun S'=>(.tup [],S')
 | .bin op q x y=>(binD op q (av fr x) (av fr y)).map fun d=>(d,S)
 | .un op x=>(unD op (av fr x)).map fun d=>(d,S)
 | .conv k x=>match av fr x with
  | .i _ n=>some (.i k (k.wrap n),S)
  | _=>none
 | .mkfn g cs=>some (.fn g (avs fr cs),S)
 | .mkmap=>some (.mp S.length,.map []::S)
 | .mksl k arr z n=>match av fr n with
  | .i _ m=>if 0≤m∧m≤maxLenD then
    (if arr then some (.ar k S.length 0 m.toNat,.box (List.replicate m.toNat z).flatten::S)
    else (if m=0 then some (.sl k false [] .cap0,S) else some (.sl k false (List.replicate m.toNat z) (.tok S.length),.tok true::S))) else none
  | _=>none
 | .slc k x lo hi=>(slcD k (av fr x) (avo fr lo) (avo fr hi)).map fun d=>(d,S)
 | .slcs x lo hi=>(slcsD (av fr x) (avo fr lo) (avo fr hi)).map fun d=>(d,S)
 | .fa o x=>match av fr x with
  | .bx id p=>some (.bx id (p+o),S)
  | .el cs p=>some (.el cs (p+o),S)
  | _=>none
 | .fld o k g x=>match av fr x with
  | .agg cs=>(rdK cs o k g).map fun d=>(d,S)
  | _=>none
 | .ia k x i=>(iaD k (av fr x) (av fr i)).map fun d=>(d,S)
 | .iaa n k x i=>match av fr x,av fr i with
  | .bx id o,.i _ m=>if 0≤m∧m<n then some (.bx id (o+m.toNat * k),S) else none
  | _,_=>none
 | .ixs x i=>match av fr x,av fr i with
  | .s l,.i _ m=>if 0≤m then (l[m.toNat]?).map fun c=>(.i .u8 c.toNat,S) else none
  | _,_=>none
 | .lk kk ok z m key=>if isKey kk (av fr key) then
   (match av fr m with
   | .nilm=>some (if ok then .tup [z,.b false] else z,S)
   | .mp id=>match sget S id with
    | some (.map es)=>match lkD kk (av fr key) es with
     | some (some v)=>some (if ok then .tup [v,.b true] else v,S)
     | some none=>some (if ok then .tup [z,.b false] else z,S)
     | none=>none
    | _=>none
   | _=>none) else none
 | .mu kk m key v=>if isKey kk (av fr key) then
   (match av fr m with
   | .mp id=>match sget S id with
    | some (.map es)=>(muD kk (av fr key) (av fr v) es).map fun es'=>(.tup [],sset S id (.map es'))
    | _=>none
   | _=>none) else none
 | .ment kk z m key=>if isKey kk (av fr key) then
   (match av fr m with
   | .mp id=>match sget S id with
    | some (.map es)=>match posD kk (av fr key) es 0 with
     | some (some j)=>match es[j]? with
      | some e=>some (.tup [e.2,.i .i64 j],sset S id (.map (putD (av fr key) j es)))
      | none=>none
     | some none=>some (.tup [z,.i .i64 es.length],sset S id (.map (es++[(av fr key,z)])))
     | none=>none
    | _=>none
   | _=>none) else none
 | .est m j v=>match av fr m,av fr j with
  | .mp id,.i _ n=>match sget S id with
   | some (.map es)=>if 0≤n∧n<es.length then some (.tup [],sset S id (.map (valD (av fr v) n.toNat es))) else none
   | _=>none
  | _,_=>none
 | .ext x j=>match av fr x with
  | .tup cs=>(cs[j]?).map fun d=>(d,S)
  | _=>none
 | .len str x=>match str,av fr x with
  | false,.sl _ _ xs _=>some (.i .i64 xs.length,S)
  | false,.ar _ _ _ n=>some (.i .i64 n,S)
  | true,.s l=>some (.i .i64 l.length,S)
  | _,_=>none
 | .app k arr x y=>appD k arr (av fr x) (av fr y) S
 | .mx x y=>match av fr x,av fr y with
  | .i k a,.i k' b=>if k=k' then some (.i k (if b > a then b else a),S) else none
  | _,_=>none
 | .mn x y=>match av fr x,av fr y with
  | .i k a,.i k' b=>if k=k' then some (.i k (if b<a then b else a),S) else none
  | _,_=>none
 | .clr k z x=>match av fr x with
  | .ar k' id o n=>if k'=k∧z.length=k then (match sget S id with
   | some (.box cs)=>if o+n * k≤cs.length then some (.tup [],sset S id (.box (splice cs o (List.replicate n z).flatten))) else none
   | _=>none) else none
  | .sl _ _ [] _=>some (.tup [],S)
  | _=>none
 | .call g iso args=>callR call g iso (avs fr args) S
 | .calld f iso args=>match av fr f with
  | .fn g cs=>callR call g iso (avs fr args++cs) S
  | _=>none
 | .cmps x y=>match av fr x,av fr y with
  | .s a,.s b=>some (.i .i64 (if Op.bytesLess a b then -1 else if a == b then 0 else 1),S)
  | _,_=>none
def wanted (fr:List D):Option (Nat × Bool)→Option Bool
 | none=>some true
 | some (t,w)=>match fget fr t with
  | .b x=>some (x == w)
  | .tup []=>some false
  | _=>none
def fzD (d:D) (S:Store):Option (D × Store):=
 match d with
 | .ar k id o n=>match sget S id with
  | some (.box cs)=>if o+n * k≤cs.length then some (.sl k false (chunks k n (cs.drop o)) .ro,sset S id .gone) else none
  | _=>none
 | .sl k nil xs _=>some (.sl k nil xs .ro,S)
 | _=>none
def evI (call:CallF) (fr:List D) (S:Store):I→Option (List D × Store)
 | .op dst gd r=>match wanted fr gd with
  | some true=>(evR call fr S r).map fun (d,S')=>(fsetO fr dst d,S')
  | some false=>some (fsetO fr dst (.tup []),S)
  | none=>none
 | .fz t=>(fzD (fget fr t) S).map fun (d,S')=>(fset fr t d,S')
 | .ck t r=>match evR call fr S r with
  | some (d,_)=>if deq d (fget fr t) then some (fr,S) else none
  | none=>none
def evIs (call:CallF):List D→Store→List I→Option (List D × Store)
 | fr,S,[]=>some (fr,S)
 | fr,S,o::os=>match evI call fr S o with
  | some (fr',S')=>evIs call fr' S' os
  | none=>none
abbrev Out:=Ex × List D × Store
def snds:List (Nat × I)→List I
 | []=>[]
 | (_,o)::l=>o::snds l
def iter (f:List D→Store→Option Out):Nat→List D→Store→Option Out
 | 0,_,_=>none
 | n+1,fr,S=>match f fr S with
  | some (.normal,fr',S')=>iter f n fr' S'
  | r=>r
def exec (call:CallF) (n:Nat):C→List D→Store→Option Out
 | .skip,fr,S=>some (.normal,fr,S)
 | .reg ops kill,fr,S=>match evIs call fr S ops with
  | some (fr',S')=>some (.normal,fkill fr' kill,S')
  | none=>none
 | .dreg ops kill,fr,S=>match evIs call fr S (snds ops) with
  | some (fr',S')=>some (.normal,fkill fr' kill,S')
  | none=>none
 | .seq a b,fr,S=>match exec call n a fr S with
  | some (.normal,fr',S')=>exec call n b fr' S'
  | r=>r
 | .cond c a b,fr,S=>match av fr c with
  | .b true=>exec call n a fr S
  | .b false=>exec call n b fr S
  | _=>none
 | .blk id c,fr,S=>match exec call n c fr S with
  | some (.exit j,fr',S')=>some (if j=id then .normal else .exit j,fr',S')
  | r=>r
 | .loop kl c,fr,S=>iter (fun fr S=>exec call n c (fkill fr kl) S) n fr S
 | .exit id,fr,S=>some (.exit id,fr,S)
 | .ret,fr,S=>some (.ret,fr,S)
 | .bad,_,_=>none
def res1 (fr:List D) (S:Store):Res→Option D
 | .t n=>some (fget fr n)
 | .cell n k g=>match fget fr n with
  | .bx id o=>ldD S k g (.bx id o)
  | _=>none
def resL (fr:List D) (S:Store):List Res→Option (List D)
 | []=>some []
 | r::l=>match res1 fr S r,resL fr S l with
  | some d,some m=>some (d::m)
  | _,_=>none
def resD:List D→D
 | [d]=>d
 | l=>.tup l
def finish (f:Fn):Option Out→Option (D × Store)
 | some (.normal,fr,S)=>(resL fr S f.res).map fun l=>(resD l,S)
 | some (.ret,fr,S)=>(resL fr S f.res).map fun l=>(resD l,S)
 | _=>none
def frame0 (f:Fn) (args:List D):List D:=args++List.replicate (f.nt-f.np) .top
def textsD:List (List D)→Option (List (List UInt8))
 | []=>some []
 | [.s a]::l=>(textsD l).map (a :: ·)
 | _=>none
def primD (f:Fn) (args:List D) (S:Store):Option (D × Store):=
 if f.np=1001 then (match args with
  | [.sl 1 _ xs _,.s sep]=>match textsD xs with
   | some l=>if (sep.intercalate l).length≤1048576∧l.length≤1048576 then some (.s (sep.intercalate l),S) else none
   | none=>none
  | _=>none)
 else if 2000≤f.np then (match args with
  | [.sl k true [] _,.i .i64 n]=>if k=f.np-2000 then (if 0<n∧n≤1048576 then some (.sl k false [] (.tok S.length),.tok true::S) else if n=0 then some (.sl k true [] .ro,S) else none) else none
  | _=>none)
 else none
def callN (dp:Nat→Option Fn):Nat→CallF
 | 0,_,_,_=>none
 | n+1,g,args,S=>match dp g with
  | some f=>if args.length=f.np∧f.np≤f.nt then finish f (exec (callN dp n) n f.body (frame0 f args) S) else primD f args S
  | none=>none
end Go.Proofs.YtjniafcnjbbomaaGreatDoor.DE

namespace Go.Proofs.YtjniafcnjbbomaaGreatDoor.DE
open Go
def LeO {α:Type} (x y:Option α):Prop:=∀ r,x=some r→y=some r
theorem LeO.refl {α:Type} (x:Option α):LeO x x:=fun _ h=>h
theorem LeO.trans {α:Type} {x y z:Option α} (h:LeO x y) (k:LeO y z):LeO x z:=fun r e=>k r (h r e)
theorem LeO.map {α β:Type} {x y:Option α} (h:LeO x y) (f:α→β):LeO (x.map f) (y.map f):=by
 intro r e
 cases hx:x with
 | none=>simp [hx] at e
 | some a=>rw [h a hx];rw [hx] at e;exact e
def LeC (c d:CallF):Prop:=∀ g a S,LeO (c g a S) (d g a S)
theorem isoCall_mono {c d:CallF} (h:LeC c d) (g:Nat) (args:List D):LeO (isoCall c g args) (isoCall d g args):=by
 intro r e
 unfold isoCall at *
 split at e
 ·rename_i hn
  rw [if_pos hn]
  cases hc:c g (stripL args) [] with
  | none=>simp [hc] at e
  | some p=>rw [h _ _ _ p hc];rw [hc] at e;exact e
 ·cases e
theorem callR_mono {c d:CallF} (h:LeC c d) (g:Nat) (iso:Bool) (args:List D) (S:Store):LeO (callR c g iso args S) (callR d g iso args S):=by
 unfold callR
 cases iso with
 | true=>exact (isoCall_mono h g args).map _
 | false=>exact h _ _ _
theorem evR_mono {c d:CallF} (h:LeC c d) (fr:List D) (S:Store) (r:R):LeO (evR c fr S r) (evR d fr S r):=by
 cases r with
 | call g iso args=>exact callR_mono h _ _ _ _
 | calld f iso args=>
  intro x e
  simp only [evR] at *
  split at e
  ·exact callR_mono h _ _ _ _ _ e
  ·cases e
 | _=>exact LeO.refl _
theorem evI_mono {c d:CallF} (h:LeC c d) (fr:List D) (S:Store) (o:I):LeO (evI c fr S o) (evI d fr S o):=by
 cases o with
 | op dst gd r=>
  intro x e
  simp only [evI] at *
  split at e
  ·exact (evR_mono h fr S r).map _ _ e
  ·exact e
  ·cases e
 | fz t=>exact LeO.refl _
 | ck t r=>
  intro x e
  simp only [evI] at *
  cases hr:evR c fr S r with
  | none=>simp [hr] at e
  | some p=>rw [evR_mono h fr S r p hr];rw [hr] at e;exact e
theorem evIs_mono {c d:CallF} (h:LeC c d):∀ (os:List I) (fr:List D) (S:Store),LeO (evIs c fr S os) (evIs d fr S os)
 | [],_,_=>LeO.refl _
 | o::os,fr,S=>by
  intro x e
  simp only [evIs] at *
  cases hi:evI c fr S o with
  | none=>simp [hi] at e
  | some p=>
   rw [evI_mono h fr S o p hi]
   rw [hi] at e
   exact evIs_mono h os _ _ _ e
theorem iter_mono {f g:List D→Store→Option Out} (h:∀ fr S,LeO (f fr S) (g fr S)):∀ (n m:Nat),n≤m→∀ fr S,LeO (iter f n fr S) (iter g m fr S)
 | 0,_,_,_,_=>fun _ e=>by cases e
 | n+1,0,hm,_,_=>absurd hm (by omega)
 | n+1,m+1,hm,fr,S=>by
  intro x e
  simp only [iter] at *
  cases hf:f fr S with
  | none=>simp [hf] at e
  | some p=>
   rw [h fr S p hf]
   rw [hf] at e
   obtain ⟨ex,fr',S'⟩:=p
   cases ex with
   | normal=>exact iter_mono h n m (by omega) _ _ _ e
   | exit _=>exact e
   | ret=>exact e
theorem exec_mono {c d:CallF} (h:LeC c d) {n m:Nat} (hm:n≤m):∀ (co:C) (fr:List D) (S:Store),LeO (exec c n co fr S) (exec d m co fr S)
 | .skip,_,_=>LeO.refl _
 | .reg ops kill,fr,S=>by
  intro x e
  simp only [exec] at *
  cases hi:evIs c fr S ops with
  | none=>simp [hi] at e
  | some p=>rw [evIs_mono h ops fr S p hi];rw [hi] at e;exact e
 | .dreg ops kill,fr,S=>by
  intro x e
  simp only [exec] at *
  cases hi:evIs c fr S (snds ops) with
  | none=>simp [hi] at e
  | some p=>rw [evIs_mono h (snds ops) fr S p hi];rw [hi] at e;exact e
 | .seq a b,fr,S=>by
  intro x e
  simp only [exec] at *
  cases ha:exec c n a fr S with
  | none=>simp [ha] at e
  | some p=>
   rw [exec_mono h hm a fr S p ha]
   rw [ha] at e
   obtain ⟨ex,fr',S'⟩:=p
   cases ex with
   | normal=>exact exec_mono h hm b _ _ _ e
   | exit _=>exact e
   | ret=>exact e
 | .cond q a b,fr,S=>by
  intro x e
  simp only [exec] at *
  cases hq:av fr q with
  | b y=>
   rw [hq] at e
   cases y with
   | true=>exact exec_mono h hm a _ _ _ e
   | false=>exact exec_mono h hm b _ _ _ e
  | _=>simp [hq] at e
 | .blk id a,fr,S=>by
  intro x e
  simp only [exec] at *
  cases ha:exec c n a fr S with
  | none=>simp [ha] at e
  | some p=>rw [exec_mono h hm a fr S p ha];rw [ha] at e;exact e
 | .loop kl a,fr,S=>iter_mono (fun fr S=>exec_mono h hm a (fkill fr kl) S) n m hm fr S
 | .exit _,_,_=>LeO.refl _
 | .ret,_,_=>LeO.refl _
 | .bad,_,_=>LeO.refl _
theorem finish_mono (f:Fn) {x y:Option Out} (h:LeO x y):LeO (finish f x) (finish f y):=by
 intro r e
 cases hx:x with
 | none=>simp [hx,finish] at e
 | some p=>rw [h p hx];rw [hx] at e;exact e
theorem callN_step (dp:Nat→Option Fn):∀ n,LeC (callN dp n) (callN dp (n+1))
 | 0=>fun _ _ _ _ e=>by cases e
 | n+1=>by
  intro g a S r e
  simp only [callN] at e ⊢
  cases hg:dp g with
  | none=>simp [hg] at e
  | some f=>
   simp only [hg] at e ⊢
   split at e
   ·rename_i hn
    rw [if_pos hn]
    exact finish_mono f (exec_mono (callN_step dp n) (Nat.le_succ n) f.body _ _) _ e
   ·rename_i hn
    rw [if_neg hn]
    exact e
theorem callN_mono (dp:Nat→Option Fn) (n:Nat):∀ m,n≤m→LeC (callN dp n) (callN dp m):=by
 intro m hm
 induction m with
 | zero=>
      have:n=0:=by omega
      subst this;exact fun _ _ _=>LeO.refl _
 | succ m ih=>
  rcases Nat.lt_or_ge n (m+1) with h | h
  ·exact fun g a S=>(ih (by omega) g a S).trans (callN_step dp m g a S)
  ·have:n=m+1:=by omega
   subst this;exact fun _ _ _=>LeO.refl _
open Classical in
noncomputable def lim {α:Type} (f:Nat→Option α):Option α:=if h:∃ r,∃ n,f n=some r then some (Classical.choose h) else none
theorem lim_iff {α:Type} {f:Nat→Option α} (hf:∀ n m,n≤m→LeO (f n) (f m)) (r:α):lim f=some r↔∃ n,f n=some r:=by
 unfold lim
 constructor
 ·intro h
  split at h
  ·rename_i hx
   injection h with h
   exact h ▸ Classical.choose_spec hx
  ·cases h
 ·rintro ⟨n,hn⟩
  have hx:∃ r,∃ n,f n=some r:=⟨r,n,hn⟩
  rw [dif_pos hx]
  obtain ⟨m,hm⟩:=Classical.choose_spec hx
  have h1:=hf n (max n m) (Nat.le_max_left _ _) r hn
  have h2:=hf m (max n m) (Nat.le_max_right _ _) _ hm
  rw [h1] at h2
  exact h2.symm
noncomputable def call (dp:Nat→Option Fn):CallF:=fun g a S=>lim fun n=>callN dp n g a S
noncomputable def execL (call:CallF):C→List D→Store→Option Out
 | .skip,fr,S=>some (.normal,fr,S)
 | .reg ops kill,fr,S=>match evIs call fr S ops with
  | some (fr',S')=>some (.normal,fkill fr' kill,S')
  | none=>none
 | .dreg ops kill,fr,S=>match evIs call fr S (snds ops) with
  | some (fr',S')=>some (.normal,fkill fr' kill,S')
  | none=>none
 | .seq a b,fr,S=>match execL call a fr S with
  | some (.normal,fr',S')=>execL call b fr' S'
  | r=>r
 | .cond c a b,fr,S=>match av fr c with
  | .b true=>execL call a fr S
  | .b false=>execL call b fr S
  | _=>none
 | .blk id c,fr,S=>match execL call c fr S with
  | some (.exit j,fr',S')=>some (if j=id then .normal else .exit j,fr',S')
  | r=>r
 | .loop kl c,fr,S=>lim fun n=>iter (fun fr S=>execL call c (fkill fr kl) S) n fr S
 | .exit id,fr,S=>some (.exit id,fr,S)
 | .ret,fr,S=>some (.ret,fr,S)
 | .bad,_,_=>none
section
variable {dp:Nat→Option Fn}
theorem call_iff (g:Nat) (a:List D) (S:Store) (r:D × Store):call dp g a S=some r↔∃ n,callN dp n g a S=some r:=
 lim_iff (fun n m h=>callN_mono dp n m h g a S) r
theorem callN_call (n:Nat):LeC (callN dp n) (call dp):=fun g a S r h=>(call_iff g a S r).2 ⟨n,h⟩
theorem isoCall_ex {g:Nat} {a:List D} {r:D} (h:isoCall (call dp) g a=some r):∃ n,isoCall (callN dp n) g a=some r:=by
 unfold isoCall at h
 split at h
 ·rename_i hn
  cases hc:call dp g (stripL a) [] with
  | none=>simp [hc] at h
  | some p=>
   obtain ⟨n,e⟩:=(call_iff _ _ _ _).1 hc
   refine ⟨n,?_⟩
   unfold isoCall
   rw [if_pos hn,e]
   rw [hc] at h
   exact h
 ·cases h
theorem callR_ex {g:Nat} {iso:Bool} {a:List D} {S:Store} {r:D × Store} (h:callR (call dp) g iso a S=some r):∃ n,callR (callN dp n) g iso a S=some r:=by
 unfold callR at *
 cases iso with
 | true=>
  simp only [if_true] at h ⊢
  cases hc:isoCall (call dp) g a with
  | none=>simp [hc] at h
  | some p=>
   obtain ⟨n,e⟩:=isoCall_ex hc
   exact ⟨n,by rw [e];rw [hc] at h;exact h⟩
 | false=>simpa using (call_iff _ _ _ _).1 (by simpa using h)
theorem evR_ex {fr:List D} {S:Store} {o:R} {r:D × Store} (h:evR (call dp) fr S o=some r):∃ n,evR (callN dp n) fr S o=some r:=by
 cases o with
 | call g iso args=>exact callR_ex h
 | calld f iso args=>
  simp only [evR] at *
  split at h
  ·obtain ⟨n,e⟩:=callR_ex h
   exact ⟨n,e⟩
  ·cases h
 | _=>exact ⟨0,h⟩
theorem evI_ex {fr:List D} {S:Store} {o:I} {r:List D × Store} (h:evI (call dp) fr S o=some r):∃ n,evI (callN dp n) fr S o=some r:=by
 cases o with
 | op dst gd o=>
  simp only [evI] at *
  split at h
  ·cases hc:evR (call dp) fr S o with
   | none=>simp [hc] at h
   | some p=>
    obtain ⟨n,e⟩:=evR_ex hc
    exact ⟨n,by rw [e];rw [hc] at h;exact h⟩
  ·exact ⟨0,h⟩
  ·cases h
 | fz t=>exact ⟨0,h⟩
 | ck t o=>
  simp only [evI] at *
  cases hc:evR (call dp) fr S o with
  | none=>simp [hc] at h
  | some p=>
   obtain ⟨n,e⟩:=evR_ex hc
   exact ⟨n,by rw [e];rw [hc] at h;exact h⟩
theorem evIs_ex:∀ {os:List I} {fr:List D} {S:Store} {r:List D × Store},evIs (call dp) fr S os=some r→∃ n,evIs (callN dp n) fr S os=some r
 | [],_,_,_,h=>⟨0,h⟩
 | o::os,fr,S,r,h=>by
  simp only [evIs] at *
  cases hi:evI (call dp) fr S o with
  | none=>simp [hi] at h
  | some p=>
   rw [hi] at h
   obtain ⟨n,e⟩:=evI_ex hi
   obtain ⟨m,e'⟩:=evIs_ex h
   refine ⟨max n m,?_⟩
   rw [evI_mono (callN_mono dp n (max n m) (Nat.le_max_left _ _)) _ _ _ _ e]
   exact evIs_mono (callN_mono dp m (max n m) (Nat.le_max_right _ _)) _ _ _ _ e'
theorem iter_ex {f:Nat→List D→Store→Option Out} {g:List D→Store→Option Out} (hf:∀ n m,n≤m→∀ fr S,LeO (f n fr S) (f m fr S))
  (h:∀ fr S r,g fr S=some r→∃ n,f n fr S=some r):∀ (k:Nat) (fr:List D) (S:Store) (r:Out),iter g k fr S=some r→∃ n,iter (f n) k fr S=some r
 | 0,_,_,_,e=>by cases e
 | k+1,fr,S,r,e=>by
  simp only [iter] at *
  cases hg:g fr S with
  | none=>simp [hg] at e
  | some p=>
   rw [hg] at e
   obtain ⟨n,hn⟩:=h _ _ _ hg
   obtain ⟨ex,fr',S'⟩:=p
   cases ex with
   | normal=>
    obtain ⟨m,hm⟩:=iter_ex hf h k _ _ _ e
    refine ⟨max n m,?_⟩
    rw [hf n (max n m) (Nat.le_max_left _ _) _ _ _ hn]
    exact iter_mono (hf m (max n m) (Nat.le_max_right _ _)) k k (Nat.le_refl _) _ _ _ hm
   | exit i=>exact ⟨n,by rw [hn];exact e⟩
   | ret=>exact ⟨n,by rw [hn];exact e⟩
theorem execN_mono {n m:Nat} (h:n≤m) (c:C) (fr:List D) (S:Store):LeO (exec (callN dp n) n c fr S) (exec (callN dp m) m c fr S):=
 exec_mono (callN_mono dp n m h) h c fr S
theorem execL_ex:∀ (c:C) (fr:List D) (S:Store) (r:Out),execL (call dp) c fr S=some r→∃ n,exec (callN dp n) n c fr S=some r
 | .skip,_,_,_,h=>⟨0,h⟩
 | .reg ops kill,fr,S,r,h=>by
  simp only [execL,exec] at *
  cases hi:evIs (call dp) fr S ops with
  | none=>simp [hi] at h
  | some p=>
   obtain ⟨n,e⟩:=evIs_ex hi
   exact ⟨n,by rw [e];rw [hi] at h;exact h⟩
 | .dreg ops kill,fr,S,r,h=>by
  simp only [execL,exec] at *
  cases hi:evIs (call dp) fr S (snds ops) with
  | none=>simp [hi] at h
  | some p=>
   obtain ⟨n,e⟩:=evIs_ex hi
   exact ⟨n,by rw [e];rw [hi] at h;exact h⟩
 | .seq a b,fr,S,r,h=>by
  simp only [execL,exec] at *
  cases ha:execL (call dp) a fr S with
  | none=>simp [ha] at h
  | some p=>
   rw [ha] at h
   obtain ⟨n,e⟩:=execL_ex a _ _ _ ha
   obtain ⟨ex,fr',S'⟩:=p
   cases ex with
   | normal=>
    obtain ⟨m,e'⟩:=execL_ex b _ _ _ h
    refine ⟨max n m,?_⟩
    rw [execN_mono (Nat.le_max_left n m) _ _ _ _ e]
    exact execN_mono (Nat.le_max_right n m) _ _ _ _ e'
   | exit i=>exact ⟨n,by rw [e];exact h⟩
   | ret=>exact ⟨n,by rw [e];exact h⟩
 | .cond q a b,fr,S,r,h=>by
  simp only [execL,exec] at *
  cases hq:av fr q with
  | b y=>
   rw [hq] at h
   cases y with
   | true=>exact execL_ex a _ _ _ h
   | false=>exact execL_ex b _ _ _ h
  | _=>simp [hq] at h
 | .blk id a,fr,S,r,h=>by
  simp only [execL,exec] at *
  cases ha:execL (call dp) a fr S with
  | none=>simp [ha] at h
  | some p=>
   obtain ⟨n,e⟩:=execL_ex a _ _ _ ha
   exact ⟨n,by rw [e];rw [ha] at h;exact h⟩
 | .loop kl a,fr,S,r,h=>by
  simp only [execL,exec] at *
  obtain ⟨k,hk⟩:=(lim_iff (fun n m hm=>iter_mono (fun _ _=>LeO.refl _) n m hm fr S) r).1 h
  obtain ⟨n,hn⟩:=iter_ex (f:=fun n fr S=>exec (callN dp n) n a (fkill fr kl) S) (fun n m hm fr S=>execN_mono hm a (fkill fr kl) S) (fun fr S r=>execL_ex a (fkill fr kl) S r) k fr S r hk
  refine ⟨max n k,?_⟩
  exact iter_mono (fun fr S=>execN_mono (Nat.le_max_left n k) a (fkill fr kl) S) k (max n k) (Nat.le_max_right _ _) _ _ _ hn
 | .exit _,_,_,_,h=>⟨0,h⟩
 | .ret,_,_,_,h=>⟨0,h⟩
 | .bad,_,_,_,h=>by cases h
theorem exec_execL (n:Nat):∀ (c:C) (fr:List D) (S:Store),LeO (exec (callN dp n) n c fr S) (execL (call dp) c fr S)
 | .skip,_,_=>LeO.refl _
 | .reg ops kill,fr,S=>by
  intro x e
  simp only [exec,execL] at *
  cases hi:evIs (callN dp n) fr S ops with
  | none=>simp [hi] at e
  | some p=>rw [evIs_mono (callN_call n) ops fr S p hi];rw [hi] at e;exact e
 | .dreg ops kill,fr,S=>by
  intro x e
  simp only [exec,execL] at *
  cases hi:evIs (callN dp n) fr S (snds ops) with
  | none=>simp [hi] at e
  | some p=>rw [evIs_mono (callN_call n) (snds ops) fr S p hi];rw [hi] at e;exact e
 | .seq a b,fr,S=>by
  intro x e
  simp only [exec,execL] at *
  cases ha:exec (callN dp n) n a fr S with
  | none=>simp [ha] at e
  | some p=>
   rw [exec_execL n a fr S p ha]
   rw [ha] at e
   obtain ⟨ex,fr',S'⟩:=p
   cases ex with
   | normal=>exact exec_execL n b _ _ _ e
   | exit _=>exact e
   | ret=>exact e
 | .cond q a b,fr,S=>by
  intro x e
  simp only [exec,execL] at *
  cases hq:av fr q with
  | b y=>
   rw [hq] at e
   cases y with
   | true=>exact exec_execL n a _ _ _ e
   | false=>exact exec_execL n b _ _ _ e
  | _=>simp [hq] at e
 | .blk id a,fr,S=>by
  intro x e
  simp only [exec,execL] at *
  cases ha:exec (callN dp n) n a fr S with
  | none=>simp [ha] at e
  | some p=>rw [exec_execL n a fr S p ha];rw [ha] at e;exact e
 | .loop kl a,fr,S=>by
  intro x e
  simp only [exec,execL] at *
  exact (lim_iff (fun n m hm=>iter_mono (fun _ _=>LeO.refl _) n m hm fr S) x).2 ⟨n,iter_mono (fun fr S=>exec_execL n a (fkill fr kl) S) n n (Nat.le_refl _) _ _ _ e⟩
 | .exit _,_,_=>LeO.refl _
 | .ret,_,_=>LeO.refl _
 | .bad,_,_=>LeO.refl _
theorem execL_iff (c:C) (fr:List D) (S:Store) (r:Out):execL (call dp) c fr S=some r↔∃ n,exec (callN dp n) n c fr S=some r:=
 ⟨execL_ex c fr S r,fun ⟨n,h⟩=>exec_execL n c fr S r h⟩
theorem Option.ext_some {α:Type} {x y:Option α} (h:∀ r,x=some r↔y=some r):x=y:=by
 cases hx:x with
 | none=>cases hy:y with
  | none=>rfl
  | some b=>have:=(h b).2 hy;rw [hx] at this;cases this
 | some a=>exact ((h a).1 hx).symm
theorem call_eq (g:Nat) (a:List D) (S:Store):call dp g a S=match dp g with
  | some f=>if a.length=f.np∧f.np≤f.nt then finish f (execL (call dp) f.body (frame0 f a) S) else primD f a S
  | none=>none:=by
 apply Option.ext_some
 intro r
 rw [call_iff]
 constructor
 ·rintro ⟨n,h⟩
  cases n with
  | zero=>cases h
  | succ n=>
   simp only [callN] at h
   cases hg:dp g with
   | none=>simp [hg] at h
   | some f=>
    simp only [hg] at h ⊢
    split at h
    ·rename_i hn
     rw [if_pos hn]
     exact finish_mono f (exec_execL n f.body _ _) _ h
    ·rename_i hn
     rw [if_neg hn]
     exact h
 ·intro h
  cases hg:dp g with
  | none=>simp [hg] at h
  | some f=>
   simp only [hg] at h
   split at h
   ·rename_i hn
    cases he:execL (call dp) f.body (frame0 f a) S with
    | none=>simp [he,finish] at h
    | some p=>
     obtain ⟨n,e⟩:=execL_ex _ _ _ _ he
     refine ⟨n+1,?_⟩
     simp only [callN,hg]
     rw [if_pos hn,e,←he]
     exact h
   ·rename_i hn
    refine ⟨1,?_⟩
    simp only [callN,hg]
    rw [if_neg hn]
    exact h
end
end Go.Proofs.YtjniafcnjbbomaaGreatDoor.DE

namespace Go.Proofs.YtjniafcnjbbomaaGreatDoor.DE
open Go
structure Gh where
 blk:Nat
 lo:Nat
 hi:Nat
abbrev Fix:=Nat→Nat→Prop
def OwnOk (G:List Gh) (b lo hi cap:Nat):Own→Prop
 | .ro=>True
 | .cap0=>cap=0
 | .tok t=>sget G t=some ⟨b,lo,hi⟩
inductive Rel (dp:Nat→Option Fn) (F:Fix) (G:List Gh) (w:World):Value→D→Prop
 | top (v:Value):Rel dp F G w v .top
 | b (x:Bool):Rel dp F G w (.bool x) (.b x)
 | i (k:IntKind) (n:Int):Rel dp F G w (.int k n) (.i k n)
 | s (l:List UInt8):Rel dp F G w (.string ⟨l.toArray⟩) (.s l)
 | nil (k:Nat) (o:Own):Rel dp F G w (.slice none 0 0) (.sl k true [] o)
 | sl (k:Nat) (xs:List (List D)) (o:Own) (blk off cap:Nat) (c:Nat→Nat→Value) (hk:∀ x∈xs,x.length=k) (hcap:xs.length≤cap)
   (h1:∀ (j:Nat) (x:List D) (m:Nat) (d:D),xs[j]? = some x→x[m]? = some d→F blk (off+j * k+m)∧w.cell? ⟨blk,off+j * k+m,none⟩=some (c j m)∧(c j m).oneCell'=true)
   (h2:∀ (j:Nat) (x:List D) (m:Nat) (d:D),xs[j]? = some x→x[m]? = some d→Rel dp F G w (c j m) d)
   (ho:OwnOk G blk (off+xs.length * k) (off+cap * k) cap o):Rel dp F G w (.slice (some ⟨blk,off,none⟩) xs.length cap) (.sl k false xs o)
 | emp (k:Nat) (ad:Addr) (cap:Nat):Rel dp F G w (.slice (some ad) 0 cap) (.sl k false [] .ro)
 | agg (vs:Array Value) (ds:List D) (hl:vs.size=ds.length) (h:∀ (j:Nat) (v:Value) (d:D),vs[j]? = some v→ds[j]? = some d→Rel dp F G w v d):Rel dp F G w (.agg vs) (.agg ds)
 | tup (vs:Array Value) (ds:List D) (hl:vs.size=ds.length) (h:∀ (j:Nat) (v:Value) (d:D),vs[j]? = some v→ds[j]? = some d→Rel dp F G w v d):Rel dp F G w (.tuple vs) (.tup ds)
 | bx (id o:Nat) (g:Gh) (hg:sget G id=some g):Rel dp F G w (.pointer (some ⟨g.blk,o,none⟩)) (.bx id o)
 | el (cs:List D) (blk base o:Nat) (c:Nat→Value) (h1:∀ (m:Nat) (d:D),cs[m]? = some d→F blk (base+m)∧w.cell? ⟨blk,base+m,none⟩=some (c m))
   (h2:∀ (m:Nat) (d:D),cs[m]? = some d→Rel dp F G w (c m) d):Rel dp F G w (.pointer (some ⟨blk,base+o,none⟩)) (.el cs o)
 | ar (k id o n cap:Nat) (g:Gh) (hg:sget G id=some g) (hn:n≤cap∧o+cap * k≤g.hi):Rel dp F G w (.slice (some ⟨g.blk,o,none⟩) n cap) (.ar k id o n)
 | nilp:Rel dp F G w (.pointer none) .nilp
 | nilm:Rel dp F G w (.map none) .nilm
 | mp (id:Nat) (g:Gh) (hg:sget G id=some g):Rel dp F G w (.map (some g.blk)) (.mp id)
 | fn (g:Nat) (f:Fn) (hf:dp g=some f) (vs:Array Value) (ds:List D) (hl:vs.size=ds.length)
   (h:∀ (j:Nat) (v:Value) (d:D),vs[j]? = some v→ds[j]? = some d→Rel dp F G w v d):Rel dp F G w (.func (.func f.real) #[] vs) (.fn g ds)
def holds:Ent→Prop
 | .box _=>True
 | .map _=>True
 | .tok true=>True
 | _=>False
def EntOk (dp:Nat→Option Fn) (F:Fix) (G:List Gh) (w:World) (g:Gh):Ent→Prop
 | .box cs=>∃ vs T,w.heap[g.blk]? = some (.cells vs T (0,0))∧(cs.length≤vs.size∧g.hi≤vs.size)∧(∀ o,¬F g.blk o)∧(∀ v∈vs.toList,v.oneCell'=true)∧∀ (m:Nat) (v:Value) (d:D),vs[m]? = some v→cs[m]? = some d→Rel dp F G w v d
 | .tok true=>∃ vs T,w.heap[g.blk]? = some (.cells vs T (0,0))∧g.hi≤vs.size∧∀ o,g.lo≤o→¬F g.blk o
 | .map es=>∃ ents,w.heap[g.blk]? = some (.map ents es.length)∧ents.size=es.length∧∀ (j:Nat) (e:MapEntry) (d:D × D),ents[j]? = some e→es[j]? = some d→e.born=j∧Rel dp F G w e.key d.1∧Rel dp F G w e.val d.2
 | _=>True
def Owns (S:Store) (G:List Gh) (b:Nat):Prop:=∃ id e g,sget S id=some e∧holds e∧sget G id=some g∧g.blk=b
structure Sim (dp:Nat→Option Fn) (F:Fix) (G:List Gh) (w:World) (S:Store):Prop where
 len:G.length=S.length
 fcell:∀ b o,F b o→∃ v,w.cell? ⟨b,o,none⟩=some v
 ent:∀ id e g,sget S id=some e→sget G id=some g→EntOk dp F G w g e
 sep:∀ i j e e' g g',i≠j→sget S i=some e→sget S j=some e'→holds e→holds e'→sget G i=some g→sget G j=some g'→g.blk≠g'.blk
structure Ext (F:Fix) (G:List Gh) (w:World) (S:Store) (F':Fix) (G':List Gh) (w':World) (S':Store):Prop where
 fsub:∀ b o,F b o→F' b o
 gsub:∀ id g,sget G id=some g→sget G' id=some g
 cells:∀ b o,F b o→w'.cell? ⟨b,o,none⟩=w.cell? ⟨b,o,none⟩
 frame:∀ b,b<w.heap.size→¬Owns S G b→w'.heap[b]? = w.heap[b]?
 own:∀ b,Owns S' G' b→Owns S G b∨w.heap.size≤b
 fnew:∀ b o,F' b o→F b o∨Owns S G b∨w.heap.size≤b
 size:w.heap.size≤w'.heap.size
 os:w'.os=w.os
 tape:w'.tape=w.tape
 output:w'.output=w.output
section
variable {dp:Nat→Option Fn} {F F':Fix} {G G':List Gh} {w w':World} {S S':Store}
theorem sget_lt {α:Type}:∀ {l:List α} {id:Nat} {x:α},sget l id=some x→id<l.length
 | [],_,_,h=>by cases h
 | e::l,id,x,h=>by
  simp only [sget] at h
  split at h
  ·rename_i he;simp;omega
  ·have:=sget_lt h;simp;omega
theorem sget_some {α:Type}:∀ (l:List α) (id:Nat),id<l.length→∃ x,sget l id=some x
 | [],_,h=>by simp at h
 | e::l,id,h=>by
  simp only [sget]
  split
  ·exact ⟨e,rfl⟩
  ·rename_i he
   exact sget_some l id (by simp at h;omega)
theorem sset_length {α:Type}:∀ (l:List α) (id:Nat) (x:α),(sset l id x).length=l.length
 | [],_,_=>rfl
 | e::l,id,x=>by
  simp only [sset]
  split
  ·rfl
  ·simp [sset_length l id x]
theorem sget_sset {α:Type}:∀ (l:List α) (id j:Nat) (x:α),sget (sset l id x) j=if j=id∧id<l.length then some x else sget l j
 | [],id,j,x=>by simp [sset,sget]
 | e::l,id,j,x=>by
  simp only [sset]
  by_cases h:id=l.length
  ·subst h
   by_cases hj:j=l.length
   ·subst hj;simp [sget]
   ·simp [sget,hj]
  ·rw [if_neg h]
   simp only [sget,sset_length]
   by_cases hj:j=l.length
   ·subst hj
    rw [if_pos rfl,if_pos rfl,if_neg (by omega)]
   ·rw [if_neg hj,if_neg hj,sget_sset l id j x]
    by_cases hji:j=id
    ·subst hji
     by_cases hl:j<l.length
     ·rw [if_pos ⟨rfl,hl⟩,if_pos ⟨rfl,by simp;omega⟩]
     ·rw [if_neg (by omega),if_neg (by simp;omega)]
    ·rw [if_neg (by omega),if_neg (by omega)]
theorem sget_cons {α:Type} (e:α) (l:List α) (id:Nat) (h:id<l.length):sget (e::l) id=sget l id:=by
 simp only [sget];rw [if_neg (by omega)]
theorem sget_top {α:Type} (e:α) (l:List α):sget (e::l) l.length=some e:=by simp [sget]
theorem fget_fset:∀ (fr:List D) (n m:Nat) (v:D),fget (fset fr n v) m=if m=n∧n<fr.length then v else fget fr m
 | [],n,m,v=>by simp [fset,fget]
 | d::l,0,0,v=>by simp [fset,fget]
 | d::l,0,m+1,v=>by simp [fset,fget]
 | d::l,n+1,0,v=>by simp [fset,fget]
 | d::l,n+1,m+1,v=>by simp only [fset,fget,fget_fset l n m v];simp
theorem fset_length:∀ (fr:List D) (n:Nat) (v:D),(fset fr n v).length=fr.length
 | [],_,_=>rfl
 | _::_,0,_=>rfl
 | _::l,n+1,v=>by simp [fset,fset_length l n v]
theorem fget_ge:∀ (fr:List D) (n:Nat),fr.length≤n→fget fr n = .top
 | [],_,_=>rfl
 | d::l,0,h=>by simp at h
 | d::l,n+1,h=>fget_ge l n (by simpa using h)
theorem fget_getElem:∀ (fr:List D) (n:Nat) (d:D),fr[n]? = some d→fget fr n=d
 | [],_,_,h=>by simp at h
 | x::l,0,d,h=>by simpa [fget] using h
 | x::l,n+1,d,h=>fget_getElem l n d (by simpa using h)
theorem Rel.mono {v:Value} {d:D} (h:Rel dp F G w v d) (hF:∀ b o,F b o→F' b o) (hG:∀ id g,sget G id=some g→sget G' id=some g)
  (hw:∀ b o,F b o→w'.cell? ⟨b,o,none⟩=w.cell? ⟨b,o,none⟩):Rel dp F' G' w' v d:=by
 induction h with
 | top v=>exact .top v
 | b x=>exact .b x
 | i k n=>exact .i k n
 | s l=>exact .s l
 | nil k o=>exact .nil k o
 | sl k xs o blk off cap c hk hcap h1 h2 ho ih=>
  refine .sl k xs o blk off cap c hk hcap (fun j x m d hx hd=>?_) ih ?_
  ·obtain ⟨a,b,e⟩:=h1 j x m d hx hd
   exact ⟨hF _ _ a,(hw _ _ a).trans b,e⟩
  ·cases o with
   | ro=>trivial
   | cap0=>exact ho
   | tok t=>exact hG _ _ ho
 | emp k ad cap=>exact .emp k ad cap
 | agg vs ds hl h ih=>exact .agg vs ds hl ih
 | tup vs ds hl h ih=>exact .tup vs ds hl ih
 | bx id o g hg=>exact .bx id o g (hG _ _ hg)
 | el cs blk base o c h1 h2 ih=>
  refine .el cs blk base o c (fun m d hd=>?_) ih
  obtain ⟨a,b⟩:=h1 m d hd
  exact ⟨hF _ _ a,(hw _ _ a).trans b⟩
 | ar k id o n cap g hg hn=>exact .ar k id o n cap g (hG _ _ hg) hn
 | nilp=>exact .nilp
 | nilm=>exact .nilm
 | mp id g hg=>exact .mp id g (hG _ _ hg)
 | fn g f hf vs ds hl h ih=>exact .fn g f hf vs ds hl ih
theorem Rel.ext {v:Value} {d:D} (h:Rel dp F G w v d) (e:Ext F G w S F' G' w' S'):Rel dp F' G' w' v d:=h.mono e.fsub e.gsub e.cells
theorem noRefL_get:∀ {l:List D} {j:Nat} {d:D},noRefL l=true→l[j]? = some d→noRef d=true
 | [],_,_,_,h=>by simp at h
 | x::l,0,d,hn,h=>by
  simp only [noRefL,Bool.and_eq_true] at hn
  simp at h;subst h;exact hn.1
 | x::l,j+1,d,hn,h=>by
  simp only [noRefL,Bool.and_eq_true] at hn
  exact noRefL_get hn.2 (by simpa using h)
theorem noRefLL_get:∀ {l:List (List D)} {j:Nat} {x:List D},noRefLL l=true→l[j]? = some x→noRefL x=true
 | [],_,_,_,h=>by simp at h
 | x::l,0,d,hn,h=>by
  simp only [noRefLL,Bool.and_eq_true] at hn
  simp at h;subst h;exact hn.1
 | x::l,j+1,d,hn,h=>by
  simp only [noRefLL,Bool.and_eq_true] at hn
  exact noRefLL_get hn.2 (by simpa using h)
theorem Rel.plain {v:Value} {d:D} (h:Rel dp F G w v d):noRef d=true→∀ G',Rel dp F G' w v d:=by
 induction h with
 | top v=>exact fun _ _=>.top v
 | b x=>exact fun _ _=>.b x
 | i k n=>exact fun _ _=>.i k n
 | s l=>exact fun _ _=>.s l
 | nil k o=>exact fun _ _=>.nil k o
 | sl k xs o blk off cap c hk hcap h1 h2 ho ih=>
  intro hn G'
  simp only [noRef,Bool.and_eq_true] at hn
  refine .sl k xs o blk off cap c hk hcap h1 (fun j x m d hx hd=>ih j x m d hx hd (noRefL_get (noRefLL_get hn.2 hx) hd) G') ?_
  cases o with
  | ro=>trivial
  | cap0=>exact ho
  | tok t=>simp at hn
 | emp k ad cap=>exact fun _ _=>.emp k ad cap
 | agg vs ds hl h ih=>exact fun hn G'=>.agg vs ds hl fun j v d hv hd=>ih j v d hv hd (noRefL_get (by simpa only [noRef] using hn) hd) G'
 | tup vs ds hl h ih=>exact fun hn G'=>.tup vs ds hl fun j v d hv hd=>ih j v d hv hd (noRefL_get (by simpa only [noRef] using hn) hd) G'
 | bx id o g hg=>exact fun hn=>by simp [noRef] at hn
 | el cs blk base o c h1 h2 ih=>exact fun hn=>by simp [noRef] at hn
 | ar k id o n cap g hg hn=>exact fun hn=>by simp [noRef] at hn
 | nilp=>exact fun _ _=>.nilp
 | nilm=>exact fun _ _=>.nilm
 | mp id g hg=>exact fun hn=>by simp [noRef] at hn
 | fn g f hf vs ds hl h ih=>exact fun hn G'=>.fn g f hf vs ds hl fun j v d hv hd=>ih j v d hv hd (noRefL_get (by simpa only [noRef] using hn) hd) G'
theorem Rel.strip1 {v:Value} {d:D} (h:Rel dp F G w v d):Rel dp F G w v (strip1 d):=by
 cases h with
 | nil k o=>exact .nil k .ro
 | emp k ad cap=>exact .emp k ad cap
 | sl k xs o blk off cap c hk hcap h1 h2 ho=>exact .sl k xs .ro blk off cap c hk hcap h1 h2 trivial
 | top v=>exact .top v
 | b x=>exact .b x
 | i k n=>exact .i k n
 | s l=>exact .s l
 | agg vs ds hl h=>exact .agg vs ds hl h
 | tup vs ds hl h=>exact .tup vs ds hl h
 | bx id o g hg=>exact .bx id o g hg
 | el cs blk base o c h1 h2=>exact .el cs blk base o c h1 h2
 | ar k id o n cap g hg hn=>exact .ar k id o n cap g hg hn
 | nilp=>exact .nilp
 | nilm=>exact .nilm
 | mp id g hg=>exact .mp id g hg
 | fn g f hf vs ds hl h=>exact .fn g f hf vs ds hl h
theorem strip1L_get:∀ {l:List D} {j:Nat} {d:D},(strip1L l)[j]? = some d→∃ e,l[j]? = some e∧d=strip1 e
 | [],_,_,h=>by simp [strip1L] at h
 | x::l,0,d,h=>⟨x,rfl,by simpa [strip1L] using h.symm⟩
 | x::l,j+1,d,h=>by
  obtain ⟨e,a,b⟩:=strip1L_get (l:=l) (j:=j) (by simpa [strip1L] using h)
  exact ⟨e,by simpa using a,b⟩
theorem strip1L_length:∀ l:List D,(strip1L l).length=l.length
 | []=>rfl
 | _::l=>by simp [strip1L,strip1L_length l]
theorem stripL_get:∀ {l:List D} {j:Nat} {d:D},(stripL l)[j]? = some d→∃ e,l[j]? = some e∧d=strip e
 | [],_,_,h=>by simp [stripL] at h
 | x::l,0,d,h=>⟨x,rfl,by simpa [stripL] using h.symm⟩
 | x::l,j+1,d,h=>by
  obtain ⟨e,a,b⟩:=stripL_get (l:=l) (j:=j) (by simpa [stripL] using h)
  exact ⟨e,by simpa using a,b⟩
theorem stripL_length:∀ l:List D,(stripL l).length=l.length
 | []=>rfl
 | _::l=>by simp [stripL,stripL_length l]
theorem Rel.strip {v:Value} {d:D} (h:Rel dp F G w v d):Rel dp F G w v (strip d):=by
 cases h with
 | agg vs ds hl h=>
  refine .agg vs _ (by rw [strip1L_length];exact hl) fun j v d hv hd=>?_
  obtain ⟨e,he,rfl⟩:=strip1L_get hd
  exact (h j v e hv he).strip1
 | nil k o=>exact .nil k .ro
 | emp k ad cap=>exact .emp k ad cap
 | sl k xs o blk off cap c hk hcap h1 h2 ho=>exact .sl k xs .ro blk off cap c hk hcap h1 h2 trivial
 | top v=>exact .top v
 | b x=>exact .b x
 | i k n=>exact .i k n
 | s l=>exact .s l
 | tup vs ds hl h=>exact .tup vs ds hl h
 | bx id o g hg=>exact .bx id o g hg
 | el cs blk base o c h1 h2=>exact .el cs blk base o c h1 h2
 | ar k id o n cap g hg hn=>exact .ar k id o n cap g hg hn
 | nilp=>exact .nilp
 | nilm=>exact .nilm
 | mp id g hg=>exact .mp id g hg
 | fn g f hf vs ds hl h=>exact .fn g f hf vs ds hl h
theorem Rel.stripT {v:Value} {d:D} (h:Rel dp F G w v d):Rel dp F G w v (stripT d):=by
 cases h with
 | tup vs ds hl h=>
  refine .tup vs _ (by rw [stripL_length];exact hl) fun j v d hv hd=>?_
  obtain ⟨e,he,rfl⟩:=stripL_get hd
  exact (h j v e hv he).strip
 | agg vs ds hl h=>exact (Rel.agg vs ds hl h).strip
 | nil k o=>exact .nil k .ro
 | emp k ad cap=>exact .emp k ad cap
 | sl k xs o blk off cap c hk hcap h1 h2 ho=>exact .sl k xs .ro blk off cap c hk hcap h1 h2 trivial
 | top v=>exact .top v
 | b x=>exact .b x
 | i k n=>exact .i k n
 | s l=>exact .s l
 | bx id o g hg=>exact .bx id o g hg
 | el cs blk base o c h1 h2=>exact .el cs blk base o c h1 h2
 | ar k id o n cap g hg hn=>exact .ar k id o n cap g hg hn
 | nilp=>exact .nilp
 | nilm=>exact .nilm
 | mp id g hg=>exact .mp id g hg
 | fn g f hf vs ds hl h=>exact .fn g f hf vs ds hl h
theorem Ext.refl (F:Fix) (G:List Gh) (w:World) (S:Store):Ext F G w S F G w S:=
 ⟨fun _ _ h=>h,fun _ _ h=>h,fun _ _ _=>rfl,fun _ _ _=>rfl,fun _ h=>.inl h,fun _ _ h=>.inl h,Nat.le_refl _,rfl,rfl,rfl⟩
theorem Ext.trans {F1 F2 F3:Fix} {G1 G2 G3:List Gh} {w1 w2 w3:World} {S1 S2 S3:Store} (h:Ext F1 G1 w1 S1 F2 G2 w2 S2) (k:Ext F2 G2 w2 S2 F3 G3 w3 S3) :
  Ext F1 G1 w1 S1 F3 G3 w3 S3 where
 fsub b o x:=k.fsub b o (h.fsub b o x)
 gsub id g x:=k.gsub id g (h.gsub id g x)
 cells b o x:=(k.cells b o (h.fsub b o x)).trans (h.cells b o x)
 frame b hb hn:=by
  rw [k.frame b (Nat.lt_of_lt_of_le hb h.size) fun hx=>?_]
  ·exact h.frame b hb hn
  ·rcases h.own b hx with hx | hx
   ·exact hn hx
   ·omega
 own b hx:=by
  rcases k.own b hx with hx | hx
  ·exact h.own b hx
  ·have:=h.size;exact .inr (by omega)
 fnew b o hx:=by
  rcases k.fnew b o hx with hx | hx | hx
  ·exact h.fnew b o hx
  ·exact .inr (h.own b hx)
  ·have:=h.size;exact .inr (.inr (by omega))
 size:=Nat.le_trans h.size k.size
 os:=k.os.trans h.os
 tape:=k.tape.trans h.tape
 output:=k.output.trans h.output
end
end Go.Proofs.YtjniafcnjbbomaaGreatDoor.DE

namespace Go.Proofs.YtjniafcnjbbomaaGreatDoor.DE
open Go
def mV1:Value→D→Bool
 | _,.top=>true
 | .int k n,.i k' m=>decide (k=k')&&n == m
 | .bool a,.b c=>a == c
 | .string s,.s l=>s.data.toList == l
 | .slice none 0 0,.sl _ true [] _=>true
 | .map none,.nilm=>true
 | .pointer none,.nilp=>true
 | _,_=>false
def mVL:List Value→List D→Bool
 | [],[]=>true
 | v::l,d::m=>mV1 v d&&mVL l m
 | _,_=>false
def mV:Value→D→Bool
 | .agg vs,.agg ds=>mVL vs.toList ds
 | v,d=>mV1 v d
section
variable (P:Program) (dp:Nat→Option Fn)
def mF (f:FuncId) (g:Nat):Bool:=match dp g with
 | some x=>x.real == f
 | none=>false
def mA:Operand→A→Bool
 | .tmp t,.t n=>t == n
 | .const v,.c d=>mV v d
 | .func f,.c (.fn g [])=>mF dp f g
 | _,.c .top=>true
 | _,_=>false
def mAs:List Operand→List A→Bool
 | [],[]=>true
 | x::l,y::m=>mA dp x y&&mAs l m
 | _,_=>false
def mAo:Option Operand→Option A→Bool
 | none,none=>true
 | some x,some y=>mA dp x y
 | _,_=>false
def mT (t:TypeId) (k:Nat) (g:Bool):Bool:=
 (match P.info? t with | some i=>i.size == k | none=>false) &&
 (match P.underlying t with
 | some (.struct _)=>g
 | some (.array _ _)=>g
 | some _=>!g&&k == 1
 | none=>false)
def mSz (t:TypeId) (k:Nat):Bool:=match P.info? t with | some i=>i.size == k | none=>false
def mZ (t:TypeId) (z:List D):Bool:=match P.info? t with
 | some i=>match i.zero with
  | some v=>mVL v.cells.toList z&&v.cells.toList.all Value.oneCell'
  | none=>false
 | none=>false
def mZ1 (t:TypeId) (z:D):Bool:=match P.info? t with
 | some i=>match i.zero with
  | some v=>mV v z
  | none=>false
 | none=>false
def mU (t:TypeId) (p:TypeDesc→Bool):Bool:=match P.underlying t with | some d=>p d | none=>false
def isSliceOf (k:Nat):TypeDesc→Bool
 | .slice e=>mSz P e k
 | _=>false
def isString:TypeDesc→Bool
 | .string=>true
 | _=>false
def mSK (t:TypeId):SK→Bool
 | .i=>mU P t fun d=>match d with | .int _=>true | _=>false
 | .b=>mU P t fun d=>match d with | .bool=>true | _=>false
 | .s=>mU P t fun d=>match d with | .string=>true | _=>false
def flatFields:List Field→Nat→List SK→Bool
 | [],_,[]=>true
 | f::l,n,k::ks=>f.name != "_" && mSK P f.type k&&mSz P f.type 1&&f.offset == n&&flatFields l (n+1) ks
 | _,_,_=>false
def mFlat (t:TypeId) (ks:List SK):Bool:=match P.underlying t with
 | some (.struct fs)=>!P.stoodInHeld t && !P.eqGuardType P.depth t&&flatFields P fs.toList 0 ks
 | some (.array n e)=>n == 2 && !P.eqGuardType P.depth t&&ks.length == n&&ks.all (mSK P e)&&mSz P e 1
 | _=>false
def mQ (t:TypeId):Q→Bool
 | .num=>true
 | .str=>true
 | .bool=>mU P t fun d=>match d with | .bool=>true | _=>false
 | .agg ks=>mFlat P t ks
 | .sl=>mU P t fun d=>match d with | .slice _=>true | _=>false
 | .map=>mU P t fun d=>match d with | .map _ _=>true | _=>false
def mKey (t:TypeId):KK→Bool
 | .one k=>mSK P t k
 | .agg ks=>mFlat P t ks
def mParts (places:List (Nat × TypeId)):List (Nat × Operand)→List (Nat × Nat × Bool × A)→Bool
 | [],[]=>true
 | (i,x)::l,(o,k,g,y)::m=>(match places[i]? with | some (off,t)=>off == o&&mT P t k g | none=>false)&&mA dp x y&&mParts places l m
 | _,_=>false
def mElems (k:Nat) (g:Bool):Nat→List (Nat × Operand)→List A→Bool
 | _,[],[]=>true
 | n,(i,x)::l,y::m=>i == n&&mA dp x y&&mElems k g (n+1) l m
 | _,_,_=>false
def mCallee (f:FuncId):Bool:=match P.funcs[f]? with
 | some fn=>fn.name != "runtime.NumGoroutine" && fn.body.isSome
 | none=>false
def mR (
    o:Op):R→Bool
 | .mv y=>match o with
  | .move x=>mA dp x y
  | .assign x=>mA dp x y
  | _=>false
 | .nilck y=>match o with
  | .nilCheck x=>mA dp x y
  | _=>false
 | .pick c a b=>match o with
  | .pick c' a' b'=>mA dp c' c&&mA dp a' a&&mA dp b' b
  | _=>false
 | .alloc z=>match o with
  | .alloc t=>mZ P t z
  | _=>false
 | .box k g y=>match o with
  | .box t x=>mT P t k g&&mA dp x y
  | _=>false
 | .bld z ps=>match o with
  | .build t parts=>mZ P t z&&(match P.underlying t with
   | some (.struct fs)=>fs.toList.all (fun f=>(P.info? f.type).isSome)&&mParts P dp (fs.toList.map fun f=>(f.offset,f.type)) parts.toList ps
   | some (.array n e)=>(match P.info? e with | some i=>mParts P dp ((List.range n).map fun j=>(j * i.size,e)) parts.toList ps | none=>false)
   | _=>false)
  | _=>false
 | .bsl k g _ ys=>match o with
  | .buildSlice t len parts=>(match P.underlying t with
   | some (.slice e)=>mT P e k g&&decide (0<k)&&decide (k≤4096)&&len == ys.length&&decide (len≤1024)&&(match P.info? e with | some i=>(match i.zero with | some v=>v.cells.size == k | none=>false) | none=>false)&&mElems dp k g 0 parts.toList ys
   | _=>false)
  | _=>false
 | .bsa k g ys=>match o with
  | .buildSlice t len parts=>(match P.underlying t with
   | some (.slice e)=>mT P e k g&&decide (0<k)&&decide (k≤4096)&&len == ys.length&&decide (len≤1024)&&(match P.info? e with | some i=>(match i.zero with | some v=>v.cells.size == k | none=>false) | none=>false)&&mElems dp k g 0 parts.toList ys
   | _=>false)
  | _=>false
 | .ld k g y=>match o with
  | .load t x=>mT P t k g&&mA dp x y
  | _=>false
 | .st k g y u=>match o with
  | .store t x v=>mT P t k g&&mA dp x y&&mA dp v u
  | _=>false
 | .bin op q y z=>match o with
  | .binOp op' t x v _=>decide (op=op')&&mQ P t q&&mA dp x y&&mA dp v z
  | _=>false
 | .un op y=>match o with
  | .unOp op' _ x=>decide (op=op')&&mA dp x y
  | _=>false
 | .conv k y=>match o with
  | .convert s d x=>(P.underlying s).isSome&&mU P d (fun d=>match d with | .int k'=>decide (k=k') | _=>false)&&mA dp x y
  | _=>false
 | .mkfn g ys=>match o with
  | .makeFunc (.func f) first captured=>first.isEmpty&&mF dp f g&&mAs dp captured.toList ys
  | _=>false
 | .mkmap=>match o with
  | .makeMap _ none=>true
  | _=>false
 | .mksl k _ z y=>match o with
  | .makeSlice t x c=>(match P.underlying t with
   | some (.slice e)=>mSz P e k&&mZ P e z&&z.length == k&&decide (0<k)&&(match P.info? e with | some i=>decide (i.bytes≤65536) | none=>false)
   | _=>false)&&mA dp x y&&mA dp c y
  | _=>false
 | .slc k y lo hi=>match o with
  | .slice t x l h none=>mU P t (isSliceOf P k)&&mA dp x y&&mAo dp l lo&&mAo dp h hi
  | _=>false
 | .slcs y lo hi=>match o with
  | .slice t x l h none=>mU P t isString&&mA dp x y&&mAo dp l lo&&mAo dp h hi
  | _=>false
 | .fa off y=>match o with
  | .fieldAddr t x j=>(match P.underlying t with
   | some (.struct fs)=>(match fs[j]? with | some f=>f.offset == off&&(match P.info? f.type with | some i=>i.size != 0 | none=>false) | none=>false)
   | _=>false)&&mA dp x y
  | _=>false
 | .fld off k g y=>match o with
  | .field t x j=>(match P.underlying t with
   | some (.struct fs)=>(match fs[j]? with | some f=>f.offset == off&&mT P f.type k g | none=>false)
   | _=>false)&&mA dp x y
  | _=>false
 | .ia k y j=>match o with
  | .indexAddr t x i=>mU P t (isSliceOf P k)&&mA dp x y&&mA dp i j
  | _=>false
 | .iaa n k y j=>match o with
  | .indexAddr t x i=>mU P t (fun d=>match d with | .array m e=>m == n&&mSz P e k | _=>false)&&mA dp x y&&mA dp i j
  | _=>false
 | .ixs y j=>match o with
  | .index t x i=>mU P t isString&&mA dp x y&&mA dp i j
  | _=>false
 | .lk kk ok z y key=>match o with
  | .lookup t x i ok'=>ok == ok'&&(match P.underlying t with | some (.map kt et)=>mKey P kt kk&&mZ1 P et z | _=>false)&&mA dp x y&&mA dp i key
  | _=>false
 | .mu kk y key v=>match o with
  | .mapUpdate t x i u=>(match P.underlying t with | some (.map kt _)=>mKey P kt kk | _=>false)&&mA dp x y&&mA dp i key&&mA dp u v
  | .insert t x i u=>(match P.underlying t with | some (.map kt _)=>mKey P kt kk | _=>false)&&mA dp x y&&mA dp i key&&mA dp u v
  | _=>false
 | .ment kk z y key=>match o with
  | .mapEntry t x i=>(match P.underlying t with | some (.map kt et)=>mKey P kt kk&&mZ1 P et z | _=>false)&&mA dp x y&&mA dp i key
  | _=>false
 | .est y j v=>match o with
  | .entryStore _ x i u=>mA dp x y&&mA dp i j&&mA dp u v
  | _=>false
 | .ext y j=>match o with
  | .extract x i=>i == j&&mA dp x y
  | _=>false
 | .len str y=>match o with
  | .call c=>(match c.callee with | .builtin .len=>true | _=>false)&&(match c.argTypes.toList with | t::_=>mU P t (fun d=>match d with | .slice _=>!str | .string=>str | _=>false) | _=>false)&&mAs dp c.args.toList [y]
  | _=>false
 | .app k _ y z=>match o with
  | .call c=>(match c.callee with | .builtin .append=>true | _=>false)&&(match c.argTypes.toList with
    | [t,u]=>(match P.underlying t with
     | some (.slice e)=>mSz P e k&&decide (0<k)&&(match P.info? e with | some i=>decide (i.bytes≤65536)&&(match i.zero with | some v=>v.cells.size == k&&v.cells.toList.all Value.oneCell' | none=>false) | none=>false)
     | _=>false)&&mU P u (fun d=>match d with | .slice _=>true | _=>false)
    | _=>false)&&mAs dp c.args.toList [y,z]
  | _=>false
 | .mx y z=>match o with
  | .call c=>(match c.callee with | .builtin .max=>true | _=>false)&&mAs dp c.args.toList [y,z]
  | _=>false
 | .mn y z=>match o with
  | .call c=>(match c.callee with | .builtin .min=>true | _=>false)&&mAs dp c.args.toList [y,z]
  | _=>false
 | .clr k z y=>match o with
  | .call c=>(match c.callee with | .builtin .clear=>true | _=>false)&&(match c.argTypes.toList with
    | [t]=>(match P.underlying t with | some (.slice e)=>mSz P e k&&mZ P e z | _=>false)
    | _=>false)&&mAs dp c.args.toList [y]
  | _=>false
 | .call g _ ys=>match o with
  | .call c=>(match c.callee with | .value (.func f)=>mF dp f g | _=>false)&&mAs dp c.args.toList ys
  | _=>false
 | .calld y _ ys=>match o with
  | .call c=>(match c.callee with | .value x=>mA dp x y | _=>false)&&mAs dp c.args.toList ys
  | _=>false
 | .cmps y z=>match o with
  | .call c=>(match c.callee with
   | .value (.func f)=>(match P.funcs[f]? with | some fn=>fn.name == "internal/bytealg.abigen_runtime_cmpstring" && fn.body.isNone&&(Extern.findNext fn).isNone | none=>false)
   | _=>false)&&mAs dp c.args.toList [y,z]
  | _=>false
end
section
variable {P:Program} {dp:Nat→Option Fn} {F F':Fix} {G G':List Gh} {w w':World} {S S':Store}
theorem mV1_rel {v:Value} {d:D} (h:mV1 v d=true):Rel dp F G w v d:=by
 unfold mV1 at h
 split at h
 ·exact .top _
 ·simp only [Bool.and_eq_true,decide_eq_true_eq,beq_iff_eq] at h
  obtain ⟨rfl,rfl⟩:=h
  exact .i _ _
 ·simp only [beq_iff_eq] at h;subst h;exact .b _
 ·rename_i s l
  simp only [beq_iff_eq] at h
  subst h
  exact .s _
 ·exact .nil _ _
 ·exact .nilm
 ·exact .nilp
 ·cases h
theorem mVL_get:∀ {vs:List Value} {ds:List D} {j:Nat} {v:Value} {d:D},mVL vs ds=true→vs[j]? = some v→ds[j]? = some d→mV1 v d=true
 | [],[],_,_,_,_,h,_=>by simp at h
 | [],_::_,_,_,_,h,_,_=>by simp [mVL] at h
 | _::_,[],_,_,_,h,_,_=>by simp [mVL] at h
 | x::l,y::m,0,v,d,h,hv,hd=>by
  simp only [mVL,Bool.and_eq_true] at h
  simp at hv hd
  subst hv hd
  exact h.1
 | x::l,y::m,j+1,v,d,h,hv,hd=>by
  simp only [mVL,Bool.and_eq_true] at h
  exact mVL_get h.2 (by simpa using hv) (by simpa using hd)
theorem mVL_length:∀ {vs:List Value} {ds:List D},mVL vs ds=true→vs.length=ds.length
 | [],[],_=>rfl
 | [],_::_,h=>by simp [mVL] at h
 | _::_,[],h=>by simp [mVL] at h
 | _::l,_::m,h=>by
  simp only [mVL,Bool.and_eq_true] at h
  simp [mVL_length h.2]
theorem mV_rel {v:Value} {d:D} (h:mV v d=true):Rel dp F G w v d:=by
 unfold mV at h
 split at h
 ·rename_i vs ds
  refine .agg vs ds (by simpa using mVL_length h) fun j v d hv hd=>mV1_rel (mVL_get h ?_ hd)
  simpa using hv
 ·exact mV1_rel h
structure Fr (dp:Nat→Option Fn) (F:Fix) (G:List Gh) (w:World) (a:Act) (fr:List D):Prop where
 len:fr.length=a.tmps.size
 rel:∀ t,Rel dp F G w (a.tmps.getD t undef) (fget fr t)
theorem Fr.ext {a:Act} {fr:List D} (h:Fr dp F G w a fr) (e:Ext F G w S F' G' w' S'):Fr dp F' G' w' a fr:=⟨h.len,fun t=>(h.rel t).ext e⟩
theorem Fr.eval {a:Act} {fr:List D} (h:Fr dp F G w a fr) {x:Operand} {y:A} (hm:mA dp x y=true):Rel dp F G w (a.eval x) (av fr y):=by
 unfold mA at hm
 split at hm
 ·rename_i t n
  simp only [beq_iff_eq] at hm
  subst hm
  exact h.rel t
 ·exact mV_rel hm
 ·rename_i f g
  unfold mF at hm
  split at hm
  ·rename_i x hx
   simp only [beq_iff_eq] at hm
   subst hm
   exact .fn g x hx #[] [] rfl (fun j v d hv=>by simp at hv)
  ·cases hm
 ·exact .top _
 ·cases hm
theorem Fr.evals {a:Act} {fr:List D} (h:Fr dp F G w a fr):∀ {xs:List Operand} {ys:List A},mAs dp xs ys=true →
  xs.length=ys.length∧(avs fr ys).length=ys.length∧∀ (j:Nat) (v:Value) (d:D),(xs.map a.eval)[j]? = some v→(avs fr ys)[j]? = some d→Rel dp F G w v d
 | [],[],_=>⟨rfl,rfl,fun j v d hv=>by simp at hv⟩
 | [],_::_,hm=>by simp [mAs] at hm
 | _::_,[],hm=>by simp [mAs] at hm
 | x::l,y::m,hm=>by
  simp only [mAs,Bool.and_eq_true] at hm
  obtain ⟨h1,h2,h3⟩:=h.evals hm.2
  refine ⟨by simp [h1],by simp [avs,h2],fun j v d hv hd=>?_⟩
  cases j with
  | zero=>
   simp [avs] at hv hd
   subst hv hd
   exact h.eval hm.1
  | succ j=>exact h3 j v d (by simpa using hv) (by simpa [avs] using hd)
theorem Fr.put {a:Act} {fr:List D} (h:Fr dp F G w a fr) (t:Option Nat) {v:Value} {d:D} (hv:Rel dp F G w v d):Fr dp F G w (a.put t v) (fsetO fr t d):=by
 cases t with
 | none=>exact h
 | some t=>
  refine ⟨by simp [fsetO,fset_length,Act.put,h.len],fun u=>?_⟩
  simp only [fsetO,fget_fset,Act.put]
  by_cases hu:u=t∧t<fr.length
  ·obtain ⟨rfl,hu⟩:=hu
   rw [if_pos ⟨rfl,hu⟩]
   rw [h.len] at hu
   simpa [Array.getD,hu] using hv
  ·rw [if_neg hu]
   have:=h.rel u
   by_cases hut:u=t
   ·subst hut
    have hlt:¬u<a.tmps.size:=by rw [←h.len];omega
    simpa [Array.getD,hlt] using this
   ·have e:(a.tmps.setIfInBounds t v).getD u undef=a.tmps.getD u undef:=by
     simp only [Array.getD_eq_getD_getElem?]
     rw [Array.getElem?_setIfInBounds_ne (Ne.symm hut)]
    rw [e];exact this
theorem Fr.kill1 {a:Act} {fr:List D} (h:Fr dp F G w a fr) (t:Nat):Fr dp F G w a (fset fr t .top):=by
 refine ⟨by simp [fset_length,h.len],fun u=>?_⟩
 rw [fget_fset]
 split
 ·exact .top _
 ·exact h.rel u
theorem Fr.kill {a:Act} {fr:List D} (h:Fr dp F G w a fr):∀ l:List Nat,Fr dp F G w a (fkill fr l):=by
 intro l
 induction l generalizing fr with
 | nil=>exact h
 | cons t l ih=>exact ih (h.kill1 t)
end
end Go.Proofs.YtjniafcnjbbomaaGreatDoor.DE

namespace Go.Proofs.YtjniafcnjbbomaaGreatDoor.DE
open Go
section
variable {P:Program} {dp:Nat→Option Fn} {F F':Fix} {G G':List Gh} {w w':World} {S S':Store} {a:Act} {fr:List D} {o:Oper} {d:D}
def Pur (P:Program) (dp:Nat→Option Fn) (F:Fix) (G:List Gh) (w:World) (a:Act) (o:Oper) (d:D):Prop:=
 ∃ v,(execOp a.eval o).run P w = .ok (.value v) w∧Rel dp F G w v d
theorem pur_mv {y:A} (hm:mR P dp o.op (.mv y)=true) (hf:Fr dp F G w a fr):Pur P dp F G w a o (av fr y):=by
 simp only [mR] at hm
 split at hm
 ·rename_i x ho
  exact ⟨a.eval x,by simp only [execOp,ho,Sem.run_pure],hf.eval hm⟩
 ·rename_i x ho
  exact ⟨a.eval x,by simp only [execOp,ho,Sem.run_pure],hf.eval hm⟩
 ·cases hm
theorem pur_nilck {y:A} (hm:mR P dp o.op (.nilck y)=true) (hf:Fr dp F G w a fr)
  (he:(match av fr y with | .bx _ _=>true | .el _ _=>true | .fn _ _=>true | _=>false)=true):Pur P dp F G w a o (av fr y):=by
 simp only [mR] at hm
 split at hm
 ·rename_i x ho
  have hr:=hf.eval hm
  refine ⟨a.eval x,?_,hr⟩
  simp only [execOp,ho]
  generalize a.eval x=v at hr
  generalize av fr y=e at hr he
  cases hr <;> simp at he <;> simp
 ·cases hm
theorem pur_pick {c x y:A} {t:Bool} (hm:mR P dp o.op (.pick c x y)=true) (hf:Fr dp F G w a fr) (he:av fr c = .b t) :
  Pur P dp F G w a o (if t then av fr x else av fr y):=by
 simp only [mR] at hm
 split at hm
 ·rename_i c' x' y' ho
  simp only [Bool.and_eq_true] at hm
  obtain ⟨⟨h1,h2⟩,h3⟩:=hm
  have hc:=hf.eval h1
  rw [he] at hc
  generalize hv:a.eval c'=v at hc
  cases hc
  refine ⟨if t then a.eval x' else a.eval y',?_,?_⟩
  ·simp only [execOp,ho,hv,asBool,Sem.run_bind,Sem.run_pure,Result.andThen]
  ·cases t
   ·exact hf.eval h3
   ·exact hf.eval h2
 ·cases hm
theorem rel_oneCell {v:Value} (h:Rel dp F G w v d) (hd:isCell d=true):v.oneCell'=true∧v.cells = #[v]:=by
 cases h <;> first | (simp [isCell] at hd;done) | exact ⟨rfl,rfl⟩
theorem cellsK_rel {k:Nat} {g:Bool} {v:Value} {cs:List D} (h:Rel dp F G w v d) (hc:cellsK k g d=some cs) :
  cs.length=(if g then k else 1)∧v.cells.size=cs.length∧(∀ (j:Nat) (u:Value) (e:D),v.cells[j]? = some u→cs[j]? = some e→Rel dp F G w u e∧isCell e=true):=by
 cases g with
 | true=>
  simp only [cellsK] at hc
  split at hc
  ·rename_i cs'
   split at hc
   ·rename_i hl
    injection hc with hc
    subst hc
    cases h with
    | agg vs ds hl2 h=>
     exact ⟨by simpa using hl.1,hl2,fun j u e hu he=>⟨h j u e hu he,allCell_get hl.2 he⟩⟩
   ·cases hc
  ·cases hc
 | false=>
  simp only [cellsK] at hc
  split at hc
  ·rename_i hd
   injection hc with hc
   subst hc
   obtain ⟨h1,h2⟩:=rel_oneCell h hd
   refine ⟨by simp,by simp [h2],fun j u e hu he=>?_⟩
   cases j with
   | zero=>
    rw [h2] at hu
    simp at hu he
    subst hu he
    exact ⟨h,hd⟩
   | succ j=>simp at he
  ·cases hc
theorem pur_ext {y:A} {j:Nat} {cs:List D} (hm:mR P dp o.op (.ext y j)=true) (hf:Fr dp F G w a fr) (he:av fr y = .tup cs) (hd:cs[j]? = some d):Pur P dp F G w a o d:=by
 simp only [mR] at hm
 split at hm
 ·rename_i x i ho
  simp only [Bool.and_eq_true,beq_iff_eq] at hm
  obtain ⟨rfl,h⟩:=hm
  have hr:=hf.eval h
  rw [he] at hr
  generalize hv:a.eval x=v at hr
  cases hr with
  | tup vs ds hl h=>
   have hlt:i<vs.size:=by rw [hl];exact (List.getElem?_eq_some_iff.1 hd).1
   refine ⟨vs[i],?_,h i vs[i] d (Array.getElem?_eq_getElem hlt) hd⟩
   simp only [execOp,ho,hv,Instr.extract,Array.getElem?_eq_getElem hlt,Sem.run_bind,Sem.run_pure,Result.andThen]
 ·cases hm
theorem pur_conv {k k':IntKind} {y:A} {n:Int} (hm:mR P dp o.op (.conv k y)=true) (hf:Fr dp F G w a fr) (he:av fr y = .i k' n):Pur P dp F G w a o (.i k (k.wrap n)):=by
 simp only [mR] at hm
 split at hm
 ·rename_i s t x ho
  simp only [Bool.and_eq_true] at hm
  obtain ⟨⟨h1,h2⟩,h3⟩:=hm
  have hr:=hf.eval h3
  rw [he] at hr
  generalize hv:a.eval x=v at hr
  cases hr
  obtain ⟨ds,hds⟩:=Option.isSome_iff_exists.1 h1
  unfold mU at h2
  split at h2
  ·rename_i dt hdt
   dsimp only at h2
   split at h2
   ·simp only [decide_eq_true_eq] at h2
    subst h2
    refine ⟨.int k (k.wrap n),?_,.i _ _⟩
    simp only [execOp,ho,hv,convert,Sem.run_bind,run_underlying hds,run_underlying hdt,Result.andThen,Conv.intToInt,Sem.run_pure]
   ·cases h2
  ·cases h2
 ·cases hm
theorem pur_mkfn {g:Nat} {ys:List A} (hm:mR P dp o.op (.mkfn g ys)=true) (hf:Fr dp F G w a fr):Pur P dp F G w a o (.fn g (avs fr ys)):=by
 simp only [mR] at hm
 split at hm
 ·rename_i f first captured ho
  simp only [Bool.and_eq_true] at hm
  obtain ⟨⟨h1,h2⟩,h3⟩:=hm
  obtain ⟨e1,e2,e3⟩:=hf.evals h3
  unfold mF at h2
  split at h2
  ·rename_i x hx
   simp only [beq_iff_eq] at h2
   subst h2
   refine ⟨.func (.func x.real) #[] (captured.map a.eval),?_,.fn g x hx _ _ (by simp [e2];simpa using e1) fun j v d hv hd=>e3 j v d (by simpa using hv) hd⟩
   have hfi:first.map a.eval = #[]:=by
    have:first = #[]:=by simpa using h1
    simp [this]
   simp only [execOp,ho,Instr.makeFunc,hfi,Sem.run_bind,Sem.run_pure,Result.andThen]
  ·cases h2
 ·cases hm
theorem pur_un {op:UnOp} {y:A} (hm:mR P dp o.op (.un op y)=true) (hf:Fr dp F G w a fr) (he:unD op (av fr y)=some d):Pur P dp F G w a o d:=by
 simp only [mR] at hm
 split at hm
 ·rename_i op' t x ho
  simp only [Bool.and_eq_true,decide_eq_true_eq] at hm
  obtain ⟨rfl,h⟩:=hm
  have hr:=hf.eval h
  unfold unD at he
  split at he
  ·rename_i z heq
   rw [heq] at hr
   generalize hv:a.eval x=v at hr
   cases hr
   injection he with he
   subst he
   exact ⟨.bool (!z),by simp only [execOp,ho,hv,Op.unary,Sem.run_bind,Sem.run_pure,Result.andThen],.b _⟩
  ·rename_i k n heq
   rw [heq] at hr
   generalize hv:a.eval x=v at hr
   cases hr
   injection he with he
   subst he
   exact ⟨.int k (k.wrap (0-n)),by simp only [execOp,ho,hv,Op.unary,Op.intArith,Sem.run_bind,Sem.run_pure,Result.andThen],.i _ _⟩
  ·rename_i k n heq
   rw [heq] at hr
   generalize hv:a.eval x=v at hr
   cases hr
   simp only [intOp] at he
   injection he with he
   subst he
   exact ⟨_,by simp only [execOp,ho,hv,Op.unary,Op.intBits,Sem.run_bind,Sem.run_pure,Result.andThen],.i _ _⟩
  ·cases he
 ·cases hm
theorem pur_mx {y z:A} {k:IntKind} {m n:Int} (hm:mR P dp o.op (.mx y z)=true) (hf:Fr dp F G w a fr) (h1:av fr y = .i k m) (h2:av fr z = .i k n) :
  Pur P dp F G w a o (.i k (if n > m then n else m)):=by
 simp only [mR] at hm
 split at hm
 ·rename_i c ho
  simp only [Bool.and_eq_true] at hm
  obtain ⟨hb,hargs⟩:=hm
  split at hb
  ·rename_i hcal
   obtain ⟨e1,e2,e3⟩:=hf.evals hargs
   have hl:c.args.toList.length=2:=by rw [e1];rfl
   match hx:c.args.toList,hl with
   | [x1,x2],_=>
    rw [hx] at hargs
    simp only [mAs,Bool.and_eq_true] at hargs
    have r1:=hf.eval hargs.1
    have r2:=hf.eval hargs.2.1
    rw [h1] at r1;rw [h2] at r2
    generalize hv1:a.eval x1=v1 at r1
    generalize hv2:a.eval x2=v2 at r2
    cases r1;cases r2
    have hargs':(c.args.map a.eval).toList=[.int k m,.int k n]:=by simp [hx,hv1,hv2]
    refine ⟨.int k (if n > m then n else m),?_,.i _ _⟩
    simp only [execOp,ho,resolve,hcal,Sem.run_bind,Sem.run_pure,Result.andThen,invoke,builtin,Builtin.max_,hargs',List.foldlM_cons,List.foldlM_nil,Builtin.max2]
  ·cases hb
 ·cases hm
theorem pur_mn {y z:A} {k:IntKind} {m n:Int} (hm:mR P dp o.op (.mn y z)=true) (hf:Fr dp F G w a fr) (h1:av fr y = .i k m) (h2:av fr z = .i k n) :
  Pur P dp F G w a o (.i k (if n<m then n else m)):=by
 simp only [mR] at hm
 split at hm
 ·rename_i c ho
  simp only [Bool.and_eq_true] at hm
  obtain ⟨hb,hargs⟩:=hm
  split at hb
  ·rename_i hcal
   obtain ⟨e1,e2,e3⟩:=hf.evals hargs
   have hl:c.args.toList.length=2:=by rw [e1];rfl
   match hx:c.args.toList,hl with
   | [x1,x2],_=>
    rw [hx] at hargs
    simp only [mAs,Bool.and_eq_true] at hargs
    have r1:=hf.eval hargs.1
    have r2:=hf.eval hargs.2.1
    rw [h1] at r1;rw [h2] at r2
    generalize hv1:a.eval x1=v1 at r1
    generalize hv2:a.eval x2=v2 at r2
    cases r1;cases r2
    have hargs':(c.args.map a.eval).toList=[.int k m,.int k n]:=by simp [hx,hv1,hv2]
    refine ⟨.int k (if n<m then n else m),?_,.i _ _⟩
    simp only [execOp,ho,resolve,hcal,Sem.run_bind,Sem.run_pure,Result.andThen,invoke,builtin,Builtin.min_,hargs',List.foldlM_cons,List.foldlM_nil,Builtin.min2]
  ·cases hb
 ·cases hm
theorem pur_len {str:Bool} {y:A} {n:Nat} (hm:mR P dp o.op (.len str y)=true) (hf:Fr dp F G w a fr)
  (he:(match str,av fr y with | false,.sl _ _ xs _=>some xs.length | false,.ar _ _ _ n=>some n | true,.s l=>some l.length | _,_=>none)=some n):Pur P dp F G w a o (.i .i64 n):=by
 simp only [mR] at hm
 split at hm
 ·rename_i c ho
  simp only [Bool.and_eq_true] at hm
  obtain ⟨⟨hb,ht⟩,hargs⟩:=hm
  split at hb
  ·rename_i hcal
   split at ht
   ·rename_i t ts hts
    have hat:c.argTypes[0]? = some t:=by
     rw [←Array.getElem?_toList,hts];rfl
    obtain ⟨e1,e2,e3⟩:=hf.evals hargs
    have hl:c.args.toList.length=1:=by rw [e1];rfl
    match hx:c.args.toList,hl with
    | [x1],_=>
     rw [hx] at hargs
     simp only [mAs,Bool.and_eq_true] at hargs
     have r1:=hf.eval hargs.1
     have ha0:(c.args.map a.eval)[0]? = some (a.eval x1):=by
      rw [←Array.getElem?_toList];simp [hx]
     unfold mU at ht
     split at ht
     ·rename_i td htd
      dsimp only at ht
      refine ⟨goInt n,?_,by exact .i _ _⟩
      simp only [execOp,ho,resolve,hcal,Sem.run_bind,Sem.run_pure,Result.andThen,invoke,builtin,Builtin.len_,hat,ha0,run_underlying htd]
      generalize a.eval x1=v at r1
      generalize av fr y=e at r1 he
      split at ht
      ·cases str
       ·cases r1 <;> simp at he <;> subst he <;> rfl
       ·simp at ht
      ·cases str
       ·simp at ht
       ·cases r1 <;> simp at he <;> subst he <;> rfl
      ·cases ht
     ·cases ht
   ·cases ht
  ·cases hb
 ·cases hm
end
end Go.Proofs.YtjniafcnjbbomaaGreatDoor.DE

namespace Go.Proofs.YtjniafcnjbbomaaGreatDoor.DE
open Go
theorem addr_add (b o n:Nat):(⟨b,o,none⟩:Addr).add n=⟨b,o+n,none⟩:=by
 unfold Addr.add
 split
 ·rename_i h;subst h;rfl
 ·rfl
theorem run_sizeOf_of {P:Program} {t:TypeId} {k:Nat} (h:mSz P t k=true) (w:World):(sizeOf t).run P w = .ok k w:=by
 unfold mSz at h
 split at h
 ·rename_i i hi
  simp only [beq_iff_eq] at h
  subst h
  simp only [sizeOf,typeInfo,Sem.run_bind,run_program,Result.andThen,hi,Sem.run_pure]
 ·cases h
theorem mT_sz {P:Program} {t:TypeId} {k:Nat} {g:Bool} (h:mT P t k g=true):mSz P t k=true:=by
 unfold mT at h
 simp only [Bool.and_eq_true] at h
 exact h.1
theorem run_isAgg_of {P:Program} {t:TypeId} {k:Nat} {g:Bool} (h:mT P t k g=true) (w:World):(isAgg t).run P w = .ok g w∧(g=false→k=1):=by
 unfold mT at h
 simp only [Bool.and_eq_true] at h
 obtain ⟨_,h⟩:=h
 split at h
 ·rename_i fs hd
  subst h
  exact ⟨by simp only [isAgg,Sem.run_bind,run_underlying hd,Result.andThen,Sem.run_pure],by simp⟩
 ·rename_i fs n hd
  subst h
  exact ⟨by simp only [isAgg,Sem.run_bind,run_underlying hd,Result.andThen,Sem.run_pure],by simp⟩
 ·rename_i d h1 h2 hd
  simp only [Bool.and_eq_true,Bool.not_eq_true',beq_iff_eq] at h
  obtain ⟨rfl,rfl⟩:=h
  refine ⟨?_,fun _=>rfl⟩
  simp only [isAgg,Sem.run_bind,run_underlying hd,Result.andThen]
  cases d <;> first | rfl | (exfalso;first | exact h1 _ rfl | exact h2 _ _ rfl)
 ·cases h
section
variable {P:Program} {dp:Nat→Option Fn} {F F':Fix} {G G':List Gh} {w w':World} {S S':Store} {a:Act} {fr:List D} {o:Oper} {d:D}
theorem pur_fa {y:A} {off:Nat} (hm:mR P dp o.op (.fa off y)=true) (hf:Fr dp F G w a fr)
  (he:(match av fr y with | .bx id p=>some (D.bx id (p+off)) | .el cs p=>some (.el cs (p+off)) | _=>none)=some d):Pur P dp F G w a o d:=by
 simp only [mR] at hm
 split at hm
 ·rename_i t x j ho
  simp only [Bool.and_eq_true] at hm
  obtain ⟨h1,h2⟩:=hm
  have hr:=hf.eval h2
  split at h1
  ·rename_i fs hu
   split at h1
   ·rename_i f hfj
    simp only [Bool.and_eq_true,beq_iff_eq] at h1
    obtain ⟨rfl,h3⟩:=h1
    split at h3
    ·rename_i i hi
     have hne:i.size≠0:=by simpa using h3
     have hsz:(sizeOf f.type).run P w = .ok i.size w:=run_sizeOf_of (by simp [mSz,hi]) w
     have run:∀ b p,a.eval x = .pointer (some ⟨b,p,none⟩)→(execOp a.eval o).run P w = .ok (.value (.pointer (some ⟨b,p+f.offset,none⟩))) w:=by
      intro b p hv
      simp only [execOp,ho,hv,Instr.fieldAt,Instr.sureAddr,fieldPlace,Sem.run_bind,run_underlying hu,hfj,Sem.run_pure,Result.andThen,hsz,if_neg hne,addr_add]
     generalize hv:a.eval x=v at hr run
     generalize av fr y=e at hr he
     cases hr <;> simp at he
     ·rename_i id p g hg
      subst he
      exact ⟨_,run _ _ rfl,.bx _ _ _ hg⟩
     ·rename_i cs blk base p c h1 h2
      subst he
      exact ⟨_,run _ _ rfl,by rw [Nat.add_assoc];exact .el cs blk base _ c h1 h2⟩
    ·cases h3
   ·cases h1
  ·cases h1
 ·cases hm
theorem rd_rel {cs:List D} {k off:Nat} {g:Bool} {t:TypeId} {blk base:Nat} {c:Nat→Value} (hT:mT P t k g=true)
  (hc:∀ (m:Nat) (e:D),cs[m]? = some e→w.cell? ⟨blk,base+m,none⟩=some (c m)∧Rel dp F G w (c m) e) (hd:rdK cs off k g=some d) :
  ∃ v,(loadVar t ⟨blk,base+off,none⟩).run P w = .ok v w∧Rel dp F G w v d:=by
 obtain ⟨ha,hk⟩:=run_isAgg_of hT w
 unfold rdK at hd
 cases g with
 | true=>
  simp only [if_true] at hd
  split at hd
  ·rename_i hle
   injection hd with hd
   subst hd
   have hl:∀ j,j<k→w.cell? ((⟨blk,base+off,none⟩:Addr).add j)=some (c (off+j)):=by
    intro j hj
    have hlt:off+j<cs.length:=by omega
    rw [addr_add,Nat.add_assoc]
    exact (hc (off+j) cs[off+j] (List.getElem?_eq_getElem hlt)).1
   refine ⟨_,by simp only [loadVar,Sem.run_bind,ha,Result.andThen,if_true,run_sizeOf_of (mT_sz hT) w,run_loadCells w _ k (fun j=>c (off+j)) hl,Sem.run_pure];rfl,.agg _ _ (by simp;omega) fun j v e hv he=>?_⟩
   have hj:j<k:=by
    have:=(Array.getElem?_eq_some_iff.1 hv).1
    simpa using this
   simp [hj] at hv
   subst hv
   rw [List.getElem?_take_of_lt hj,List.getElem?_drop] at he
   exact (hc (off+j) e he).2
  ·cases hd
 | false=>
  simp at hd
  obtain ⟨h1,h2⟩:=hc off d hd
  exact ⟨c off,by simp only [loadVar,Sem.run_bind,ha,Result.andThen,Bool.false_eq_true,if_false,run_load,h1],h2⟩
theorem cell_box {b m:Nat} {vs:Array Value} {T:TypeId} {z:Nat × Nat} (h:w.heap[b]? = some (.cells vs T z)):w.cell? ⟨b,m,none⟩=vs[m]?:=by
 simp [World.cell?,h]
theorem pur_ld {y:A} {k:Nat} {g:Bool} (hm:mR P dp o.op (.ld k g y)=true) (hs:Sim dp F G w S) (hf:Fr dp F G w a fr) (he:ldD S k g (av fr y)=some d):Pur P dp F G w a o d:=by
 simp only [mR] at hm
 split at hm
 ·rename_i t x ho
  simp only [Bool.and_eq_true] at hm
  obtain ⟨hT,h2⟩:=hm
  have hr:=hf.eval h2
  have run:∀ ad v,a.eval x = .pointer (some ad)→(loadVar t ad).run P w = .ok v w→(execOp a.eval o).run P w = .ok (.value v) w:=by
   intro ad v hv hl
   simp only [execOp,ho,hv,Instr.loadAt,Instr.sureAddr,Sem.run_bind,Sem.run_pure,Result.andThen,hl]
  generalize hv:a.eval x=v at hr run
  generalize av fr y=e at hr he
  cases hr <;> simp only [ldD] at he <;> try (cases he;done)
  ·rename_i id p gh hg
   split at he
   ·rename_i cs hsg
    obtain ⟨vs,T,hh,⟨hl,_⟩,_,_,hc⟩:=hs.ent id _ gh hsg hg
    have:=rd_rel (P:=P) (dp:=dp) (F:=F) (G:=G) (w:=w) (cs:=cs) (k:=k) (off:=p) (g:=g) (t:=t) (blk:=gh.blk) (base:=0) (c:=fun m=>vs.getD m undef) hT (fun m e hme=>by
     have hlt:m<vs.size:=Nat.lt_of_lt_of_le (List.getElem?_eq_some_iff.1 hme).1 hl
     have e1:vs[m]? = some (vs.getD m undef):=by simp [Array.getD,hlt]
     exact ⟨by rw [Nat.zero_add,cell_box hh,e1],hc m _ e e1 hme⟩) he
    rw [Nat.zero_add] at this
    obtain ⟨u,hu,hru⟩:=this
    exact ⟨u,run _ u rfl hu,hru⟩
   ·cases he
  ·rename_i cs blk base p c h1 h2
   obtain ⟨u,hu,hru⟩:=rd_rel (P:=P) hT (fun m e hme=>⟨(h1 m e hme).2,h2 m e hme⟩) he
   exact ⟨u,run _ u rfl hu,hru⟩
 ·cases hm
theorem pur_fld {y:A} {off k:Nat} {g:Bool} {cs:List D} (hm:mR P dp o.op (.fld off k g y)=true) (hf:Fr dp F G w a fr) (h1:av fr y = .agg cs) (he:rdK cs off k g=some d):Pur P dp F G w a o d:=by
 simp only [mR] at hm
 split at hm
 ·rename_i t x j ho
  simp only [Bool.and_eq_true] at hm
  obtain ⟨h2,h3⟩:=hm
  have hr:=hf.eval h3
  rw [h1] at hr
  split at h2
  ·rename_i fs hu
   split at h2
   ·rename_i f hfj
    simp only [Bool.and_eq_true,beq_iff_eq] at h2
    obtain ⟨rfl,hT⟩:=h2
    obtain ⟨hag,hk⟩:=run_isAgg_of hT w
    generalize hv:a.eval x=v at hr
    cases hr with
    | agg vs ds hl h=>
     unfold rdK at he
     cases g with
     | true=>
      simp only [if_true] at he
      split at he
      ·rename_i hle
       injection he with he
       subst he
       refine ⟨.agg (vs.extract f.offset (f.offset+k)),?_,.agg _ _ (by simp;omega) fun j v e hv2 he=>?_⟩
       ·simp only [execOp,ho,hv,Instr.field,Sem.run_bind,run_underlying hu,hfj,asAgg,Sem.run_pure,Result.andThen,part,hag,if_true,run_sizeOf_of (mT_sz hT) w]
       ·rw [Array.getElem?_extract] at hv2
        split at hv2
        ·rename_i hj
         have hjk:j<k:=by omega
         rw [List.getElem?_take_of_lt hjk,List.getElem?_drop] at he
         exact h _ v e hv2 he
        ·cases hv2
      ·cases he
     | false=>
      simp at he
      have hlt:f.offset<vs.size:=by rw [hl];exact (List.getElem?_eq_some_iff.1 he).1
      refine ⟨vs[f.offset],?_,h f.offset _ d (Array.getElem?_eq_getElem hlt) he⟩
      simp only [execOp,ho,hv,Instr.field,Sem.run_bind,run_underlying hu,hfj,asAgg,Sem.run_pure,Result.andThen,part,hag,Bool.false_eq_true,if_false,Array.getElem?_eq_getElem hlt]
   ·cases h2
  ·cases h2
 ·cases hm
theorem pur_ia {y i:A} {k:Nat} (hm:mR P dp o.op (.ia k y i)=true) (hf:Fr dp F G w a fr) (he:iaD k (av fr y) (av fr i)=some d):Pur P dp F G w a o d:=by
 simp only [mR] at hm
 split at hm
 ·rename_i t x ix ho
  simp only [Bool.and_eq_true] at hm
  obtain ⟨⟨hU,hx⟩,hi⟩:=hm
  have hr:=hf.eval hx
  have hri:=hf.eval hi
  unfold mU at hU
  split at hU
  ·rename_i td htd
   unfold isSliceOf at hU
   split at hU
   ·rename_i el
    have run:∀ b p len cap kk n,a.eval x = .slice (some ⟨b,p,none⟩) len cap→a.eval ix = .int kk n→0≤n→n<len→(execOp a.eval o).run P w = .ok (.value (.pointer (some ⟨b,p+n.toNat * k,none⟩))) w:=by
     intro b p len cap kk n hv hvi h0 h1
     simp only [execOp,ho,hv,hvi,Instr.indexAt,asIntOf,Sem.run_bind,Sem.run_pure,run_underlying htd,Result.andThen,if_pos (And.intro h0 h1),run_sizeOf_of hU w,addr_add]
    generalize hvx:a.eval x=v at hr run
    generalize hvi:a.eval ix=u at hri run
    generalize av fr y=e at hr he
    generalize av fr i=e' at hri he
    unfold iaD at he
    split at he
    ·rename_i k' nl xs ow kk n
     split at he
     ·rename_i hc
      obtain ⟨h0,rfl⟩:=hc
      cases hri
      cases hxs:xs[n.toNat]? with
      | none=>simp [hxs] at he
      | some cs=>
       simp only [hxs,Option.map_some,Option.some.injEq] at he
       subst he
       have hlt:=(List.getElem?_eq_some_iff.1 hxs).1
       cases hr with
       | nil=>simp at hlt
       | emp=>simp at hlt
       | sl k xs o blk off cap c hk hcap h1 h2 hown=>
        refine ⟨_,run blk off xs.length cap kk n rfl rfl h0 (by omega),?_⟩
        exact .el cs blk (off+n.toNat * k') 0 (c n.toNat) (fun m e hme=>⟨(h1 _ cs m e hxs hme).1,(h1 _ cs m e hxs hme).2.1⟩) (fun m e hme=>h2 _ cs m e hxs hme)
     ·cases he
    ·rename_i k' id oo m kk n
     split at he
     ·rename_i hc
      obtain ⟨h0,h1,rfl⟩:=hc
      injection he with he
      subst he
      cases hri
      cases hr with
      | ar k id o n cap g hg hn=>exact ⟨_,run g.blk oo m cap kk _ rfl rfl h0 h1,.bx _ _ g hg⟩
     ·cases he
    ·cases he
   ·cases hU
  ·cases hU
 ·cases hm
theorem pur_iaa {y i:A} {n k id off:Nat} {kk:IntKind} {m:Int} (hm:mR P dp o.op (.iaa n k y i)=true) (hf:Fr dp F G w a fr) (h1:av fr y = .bx id off) (h2:av fr i = .i kk m)
  (h0:0≤m) (hlt:m<n):Pur P dp F G w a o (.bx id (off+m.toNat * k)):=by
 simp only [mR] at hm
 split at hm
 ·rename_i t x ix ho
  simp only [Bool.and_eq_true] at hm
  obtain ⟨⟨hU,hx⟩,hi⟩:=hm
  have hr:=hf.eval hx
  have hri:=hf.eval hi
  rw [h1] at hr
  rw [h2] at hri
  unfold mU at hU
  split at hU
  ·rename_i td htd
   dsimp only at hU
   split at hU
   ·rename_i mm el
    simp only [Bool.and_eq_true,beq_iff_eq] at hU
    obtain ⟨rfl,hsz⟩:=hU
    generalize hvx:a.eval x=v at hr
    generalize hvi:a.eval ix=u at hri
    cases hr with
    | bx id o g hg=>
     cases hri
     refine ⟨.pointer (some ⟨g.blk,off+m.toNat * k,none⟩),?_,.bx _ _ g hg⟩
     simp only [execOp,ho,hvx,hvi,Instr.indexAt,Instr.sureAddr,asIntOf,Sem.run_bind,Sem.run_pure,run_underlying htd,Result.andThen,if_pos (And.intro h0 hlt),run_sizeOf_of hsz w,addr_add]
   ·cases hU
  ·cases hU
 ·cases hm
theorem pur_ixs {y i:A} {l:List UInt8} {kk:IntKind} {m:Int} {c:UInt8} (hm:mR P dp o.op (.ixs y i)=true) (hf:Fr dp F G w a fr) (h1:av fr y = .s l) (h2:av fr i = .i kk m)
  (h0:0≤m) (hc:l[m.toNat]? = some c):Pur P dp F G w a o (.i .u8 c.toNat):=by
 simp only [mR] at hm
 split at hm
 ·rename_i t x ix ho
  simp only [Bool.and_eq_true] at hm
  obtain ⟨⟨hU,hx⟩,hi⟩:=hm
  have hr:=hf.eval hx
  have hri:=hf.eval hi
  rw [h1] at hr
  rw [h2] at hri
  unfold mU at hU
  split at hU
  ·rename_i td htd
   unfold isString at hU
   split at hU
   ·generalize hvx:a.eval x=v at hr
    generalize hvi:a.eval ix=u at hri
    cases hr
    cases hri
    have hb:(⟨l.toArray⟩:ByteArray)[m.toNat]? = some c:=by
     have hlt:=(List.getElem?_eq_some_iff.1 hc).1
     rw [getElem?_pos (⟨l.toArray⟩:ByteArray) m.toNat (by show m.toNat<l.toArray.size;simpa using hlt)]
     rw [List.getElem?_eq_getElem hlt] at hc
     injection hc with hc
     rw [←hc]
     rfl
    refine ⟨.int .u8 c.toNat,?_,.i _ _⟩
    simp only [execOp,ho,hvx,hvi,Instr.index,asIntOf,Sem.run_bind,Sem.run_pure,run_underlying htd,Result.andThen,if_pos h0,hb]
   ·cases hU
  ·cases hU
 ·cases hm
end
end Go.Proofs.YtjniafcnjbbomaaGreatDoor.DE

namespace Go.Proofs.YtjniafcnjbbomaaGreatDoor.DE
open Go
section
variable (P:Program) (dp:Nat→Option Fn)
def mGd (ops:List Oper):Option (Nat × Bool)→Option (Nat × Bool)→Bool
 | none,none=>true
 | some (j,x),some (t,y)=>x == y&&(match ops[j]? with | some o=>(match o.dst with | some u=>u == t | none=>false) | none=>false)
 | _,_=>false
def mDst:Option Nat→Option Nat→Bool
 | none,none=>true
 | some a,some b=>a == b
 | _,_=>false
def mI (ops:List Oper) (o:Oper):I→Bool
 | .op dst gd r=>mDst o.dst dst&&mGd ops o.guard gd&&mR P dp o.op r
 | _=>false
def mReg (ops:List Oper):List Oper→List I→Bool
 | [],[]=>true
 | l,.fz _::is=>mReg ops l is
 | o::l,i::is=>mI P dp ops o i&&mReg ops l is
 | _,_=>false
end
inductive Kd where
 | p | r | x
def kdR:R→Kd
 | .ld _ _ _=>.r
 | .lk _ _ _ _ _=>.r
 | .alloc _=>.x
 | .box _ _ _=>.x
 | .bsl _ _ own xs=>if own && !xs.isEmpty then .x else .p
 | .bsa _ _ _=>.x
 | .st _ _ _ _=>.x
 | .mkmap=>.x
 | .mksl _ _ _ _=>.x
 | .mu _ _ _ _=>.x
 | .ment _ _ _ _=>.x
 | .est _ _ _=>.x
 | .app _ _ _ _=>.x
 | .clr _ _ _=>.x
 | .call _ iso _=>if iso then .p else .x
 | .calld _ iso _=>if iso then .p else .x
 | _=>.p
def kdI:I→Kd
 | .op _ _ r=>kdR r
 | _=>.x
def usA:A→List Nat
 | .t n=>[n]
 | .c _=>[]
def usAo:Option A→List Nat
 | some x=>usA x
 | none=>[]
def usAs:List A→List Nat
 | []=>[]
 | x::l=>usA x++usAs l
def usPs:List (Nat × Nat × Bool × A)→List Nat
 | []=>[]
 | (_,_,_,x)::l=>usA x++usPs l
def usR:R→List Nat
 | .mv x=>usA x
 | .nilck x=>usA x
 | .pick c a b=>usA c++(usA a++usA b)
 | .alloc _=>[]
 | .box _ _ x=>usA x
 | .bld _ ps=>usPs ps
 | .bsl _ _ _ xs=>usAs xs
 | .bsa _ _ xs=>usAs xs
 | .ld _ _ a=>usA a
 | .st _ _ a v=>usA a++usA v
 | .bin _ _ x y=>usA x++usA y
 | .un _ x=>usA x
 | .conv _ x=>usA x
 | .mkfn _ cs=>usAs cs
 | .mkmap=>[]
 | .mksl _ _ _ n=>usA n
 | .slc _ x lo hi=>usA x++(usAo lo++usAo hi)
 | .slcs x lo hi=>usA x++(usAo lo++usAo hi)
 | .fa _ x=>usA x
 | .fld _ _ _ x=>usA x
 | .ia _ x i=>usA x++usA i
 | .iaa _ _ x i=>usA x++usA i
 | .ixs x i=>usA x++usA i
 | .lk _ _ _ m key=>usA m++usA key
 | .mu _ m key v=>usA m++(usA key++usA v)
 | .ment _ _ m key=>usA m++usA key
 | .est m j v=>usA m++(usA j++usA v)
 | .ext x _=>usA x
 | .len _ x=>usA x
 | .app _ _ x y=>usA x++usA y
 | .mx x y=>usA x++usA y
 | .mn x y=>usA x++usA y
 | .clr _ _ x=>usA x
 | .call _ _ args=>usAs args
 | .calld f _ args=>usA f++usAs args
 | .cmps x y=>usA x++usA y
def usG:Option (Nat × Bool)→List Nat
 | some (t,_)=>[t]
 | none=>[]
def befores (ops:List Oper):List Nat→List Nat
 | acc=>match ops with
  | []=>acc
  | o::l=>befores l (acc++[o.after.toList.foldl (fun s e=>if Region.binds .any e then s ||| 2 ^ e.on ||| acc.getD e.on 0 else s) 0])
end Go.Proofs.YtjniafcnjbbomaaGreatDoor.DE

namespace Go.Proofs.YtjniafcnjbbomaaGreatDoor.DE
open Go
section
variable {P:Program} {dp:Nat→Option Fn} {F F':Fix} {G G':List Gh} {w w':World} {S S':Store} {a:Act} {fr:List D} {o:Oper} {d:D}
theorem Fr.evalo {a:Act} {fr:List D} (h:Fr dp F G w a fr) {x:Option Operand} {y:Option A} (hm:mAo dp x y=true) :
  (x=none∧avo fr y=none)∨∃ u v,x.map a.eval=some u∧avo fr y=some v∧Rel dp F G w u v:=by
 unfold mAo at hm
 split at hm
 ·exact .inl ⟨rfl,rfl⟩
 ·exact .inr ⟨_,_,rfl,rfl,h.eval hm⟩
 ·cases hm
theorem run_bounds {isS:Bool} {n cap l h:Nat} {lo hi:Option D} {x y:Option Value} (hb:bounds n lo hi=some (l,h)) (hn:n≤cap)
  (hx:(x=none∧lo=none)∨∃ u v,x=some u∧lo=some v∧Rel dp F G w u v) (hy:(y=none∧hi=none)∨∃ u v,y=some u∧hi=some v∧Rel dp F G w u v) :
  (Instr.sliceBounds isS n cap x y none).run P w = .ok (l,h,cap) w∧l≤h∧h≤n:=by
 have sb:∀ (code:BoundsCode) (k:IntKind) (i:Int) (m:Nat),0≤i→i≤m→(Instr.sliceBound (.int k i) m code).run P w = .ok i.toNat w:=by
  intro code k i m h0 h1
  simp only [Instr.sliceBound,asIntOf,Sem.run_bind,Sem.run_pure,Result.andThen,if_pos (And.intro h0 h1)]
 rcases hy with ⟨rfl,rfl⟩ | ⟨u,v,rfl,rfl,hru⟩
 ·rcases hx with ⟨rfl,rfl⟩ | ⟨u',v',rfl,rfl,hru'⟩
  ·simp only [bounds] at hb
   injection hb with hb
   injection hb with h1 h2
   subst h1 h2
   exact ⟨by simp [Instr.sliceBounds],by omega,by omega⟩
  ·cases hru' <;> simp only [bounds] at hb <;> try (cases hb;done)
   rename_i k i
   split at hb
   ·rename_i hc
    injection hb with hb
    injection hb with h1 h2
    subst h1 h2
    refine ⟨?_,by omega,by omega⟩
    simp only [Instr.sliceBounds,Sem.run_bind,Sem.run_pure,Result.andThen,Option.isSome_none,Bool.false_eq_true,if_false,sb _ _ _ _ hc.1 hc.2]
   ·cases hb
 ·cases hru <;> simp only [bounds] at hb <;> try (cases hb;done)
  rename_i k i
  split at hb
  ·rename_i hc
   rcases hx with ⟨rfl,rfl⟩ | ⟨u',v',rfl,rfl,hru'⟩
   ·injection hb with hb
    injection hb with h1 h2
    subst h1 h2
    refine ⟨?_,by omega,by omega⟩
    cases isS <;> simp [Instr.sliceBounds,sb _ _ _ _ hc.1 (show i≤(cap:Int) by omega)]
   ·cases hru' <;> simp only at hb <;> try (cases hb;done)
    rename_i k' i'
    split at hb
    ·rename_i hc'
     injection hb with hb
     injection hb with h1 h2
     subst h1 h2
     refine ⟨?_,by omega,by omega⟩
     cases isS <;> simp [Instr.sliceBounds,sb _ _ _ _ hc.1 (show i≤(cap:Int) by omega),sb _ _ _ _ hc'.1 (show i'≤(i.toNat:Int) by omega)]
    ·cases hb
  ·cases hb
theorem bounds_hyp {a:Act} {fr:List D} (hf:Fr dp F G w a fr) {x:Option Operand} {y:Option A} (hm:mAo dp x y=true) :
  (x.map a.eval=none∧avo fr y=none)∨∃ u v,x.map a.eval=some u∧avo fr y=some v∧Rel dp F G w u v:=by
 rcases hf.evalo hm with ⟨rfl,e⟩ | e
 ·exact .inl ⟨rfl,e⟩
 ·exact .inr e
theorem pur_slc {y:A} {lo hi:Option A} {k:Nat} (hm:mR P dp o.op (.slc k y lo hi)=true) (hf:Fr dp F G w a fr) (he:slcD k (av fr y) (avo fr lo) (avo fr hi)=some d):Pur P dp F G w a o d:=by
 simp only [mR] at hm
 split at hm
 ·rename_i t x l h ho
  simp only [Bool.and_eq_true] at hm
  obtain ⟨⟨⟨hU,hx⟩,hl⟩,hh⟩:=hm
  have hr:=hf.eval hx
  have hlo':=bounds_hyp hf hl
  have hhi':=bounds_hyp hf hh
  generalize hv:a.eval x=v at hr
  generalize av fr y=e at hr he
  unfold mU at hU
  split at hU
  ·rename_i td htd
   unfold isSliceOf at hU
   split at hU
   ·rename_i el
    unfold slcD at he
    split at he
    ·rename_i k' nl xs ow
     split at he
     ·rename_i hk
      subst hk
      split at he
      ·rename_i p q hb
       injection he with he
       subst he
       cases hr with
       | nil=>
        obtain ⟨e1,e2,e3⟩:=run_bounds (P:=P) (isS:=true) (cap:=0) hb (Nat.le_refl _) hlo' hhi'
        simp only [List.length_nil] at e1 e3
        obtain rfl:q=0:=by omega
        obtain rfl:p=0:=by omega
        refine ⟨.slice none 0 0,?_,by simpa using Rel.nil (dp:=dp) (F:=F) (G:=G) (w:=w) k' .ro⟩
        simp only [execOp,ho,hv,Instr.sliceAt,Sem.run_bind,run_underlying htd,Result.andThen,Instr.slice,Option.map_none,e1,run_sizeOf_of hU w,Sem.run_pure,if_true,Nat.sub_self]
       | emp k ad cap=>
        obtain ⟨e1,e2,e3⟩:=run_bounds (P:=P) (isS:=true) (cap:=cap) hb (Nat.zero_le _) hlo' hhi'
        simp only [List.length_nil] at e1 e3
        obtain rfl:q=0:=by omega
        obtain rfl:p=0:=by omega
        refine ⟨.slice (some (if cap=0 then ad else ad.add 0)) 0 cap,?_,by simpa using Rel.emp (dp:=dp) (F:=F) (G:=G) (w:=w) k' _ cap⟩
        simp only [execOp,ho,hv,Instr.sliceAt,Sem.run_bind,run_underlying htd,Result.andThen,Instr.slice,Option.map_none,e1,run_sizeOf_of hU w,Sem.run_pure,if_true,Nat.sub_self]
        split <;> simp_all [addr_add]
       | sl k xs o blk off cap c hkl hcap h1 h2 hown=>
        obtain ⟨e1,e2,e3⟩:=run_bounds (P:=P) (isS:=true) hb hcap hlo' hhi'
        have hlen:((xs.drop p).take (q-p)).length=q-p:=by simp;omega
        have hget:∀ (j:Nat) (z:List D),((xs.drop p).take (q-p))[j]? = some z→xs[p+j]? = some z:=by
         intro j z hz
         have hj:=(List.getElem?_eq_some_iff.1 hz).1
         rw [hlen] at hj
         rwa [List.getElem?_take_of_lt hj,List.getElem?_drop] at hz
        refine ⟨.slice (some ⟨blk,if cap=p then off else off+p * k',none⟩) (q-p) (cap-p),?_,?_⟩
        ·simp only [execOp,ho,hv,Instr.sliceAt,Sem.run_bind,run_underlying htd,Result.andThen,Instr.slice,Option.map_none,e1,run_sizeOf_of hU w,Sem.run_pure]
         split
         ·rfl
         ·simp [addr_add]
        ·have:=Rel.sl (dp:=dp) (F:=F) (G:=G) (w:=w) k' ((xs.drop p).take (q-p)) .ro blk (if cap=p then off else off+p * k') (cap-p) (fun j m=>c (p+j) m)
          (fun z hz=>hkl z (List.mem_of_mem_drop (List.mem_of_mem_take hz))) (by rw [hlen];omega)
          (fun j z m e hz hme=>by
           have hj:=(List.getElem?_eq_some_iff.1 hz).1
           rw [hlen] at hj
           have:=h1 (p+j) z m e (hget j z hz) hme
           rw [if_neg (by omega),show off+p * k'+j * k'+m=off+(p+j) * k'+m by rw [Nat.add_mul];omega]
           exact this)
          (fun j z m e hz hme=>h2 (p+j) z m e (hget j z hz) hme) trivial
         rwa [hlen] at this
      ·cases he
     ·cases he
    ·rename_i k' id oo n
     split at he
     ·rename_i hk
      subst hk
      split at he
      ·rename_i p q hb
       cases hr with
       | ar k id o n cap g hg hn=>
        obtain ⟨e1,e2,e3⟩:=run_bounds (P:=P) (isS:=true) hb hn.1 hlo' hhi'
        have run:(execOp a.eval o).run P w = .ok (.value (.slice (some ⟨g.blk,if cap=p then oo else oo+p * k',none⟩) (q-p) (cap-p))) w:=by
         simp only [execOp,ho,hv,Instr.sliceAt,Sem.run_bind,run_underlying htd,Result.andThen,Instr.slice,Option.map_none,e1,run_sizeOf_of hU w,Sem.run_pure]
         split
         ·rfl
         ·simp [addr_add]
        split at he
        ·rename_i hqp
         subst hqp
         injection he with he
         subst he
         refine ⟨_,run,?_⟩
         rw [Nat.sub_self]
         exact Rel.sl k' [] .ro g.blk _ _ (fun _ _=>undef) (fun z hz=>by simp at hz) (Nat.zero_le _) (fun j z m e hz=>by simp at hz) (fun j z m e hz=>by simp at hz) trivial
        ·injection he with he
         subst he
         refine ⟨_,run,?_⟩
         rw [if_neg (by omega)]
         have e4:=hn.1
         have e5:(cap-p) * k'+p * k'=cap * k':=by rw [←Nat.add_mul];congr 1;omega
         exact .ar k' id _ _ _ g hg ⟨by omega,by have:=hn.2;omega⟩
      ·cases he
     ·cases he
    ·cases he
   ·cases hU
  ·cases hU
 ·cases hm
theorem pur_slcs {y:A} {lo hi:Option A} (hm:mR P dp o.op (.slcs y lo hi)=true) (hf:Fr dp F G w a fr) (he:slcsD (av fr y) (avo fr lo) (avo fr hi)=some d):Pur P dp F G w a o d:=by
 simp only [mR] at hm
 split at hm
 ·rename_i t x l h ho
  simp only [Bool.and_eq_true] at hm
  obtain ⟨⟨⟨hU,hx⟩,hl⟩,hh⟩:=hm
  have hr:=hf.eval hx
  have hlo':=bounds_hyp hf hl
  have hhi':=bounds_hyp hf hh
  generalize hv:a.eval x=v at hr
  generalize av fr y=e at hr he
  unfold mU at hU
  split at hU
  ·rename_i td htd
   unfold isString at hU
   split at hU
   ·unfold slcsD at he
    split at he
    ·rename_i l'
     split at he
     ·rename_i p q hb
      injection he with he
      subst he
      cases hr
      have hsz:(⟨l'.toArray⟩:ByteArray).size=l'.length:=by show l'.toArray.size=_;simp
      obtain ⟨e1,e2,e3⟩:=run_bounds (P:=P) (isS:=false) (cap:=l'.length) hb (Nat.le_refl _) hlo' hhi'
      have hex:(⟨l'.toArray⟩:ByteArray).extract p q=⟨((l'.drop p).take (q-p)).toArray⟩:=by
       apply ByteArray.ext
       rw [ByteArray.data_extract]
       apply Array.ext'
       simp
      refine ⟨.string ⟨((l'.drop p).take (q-p)).toArray⟩,?_,.s _⟩
      simp only [execOp,ho,hv,Instr.sliceAt,Sem.run_bind,run_underlying htd,Result.andThen,Instr.slice,Option.map_none,Option.isSome_none,Bool.false_eq_true,if_false,hsz,e1,Sem.run_pure,hex]
     ·cases he
    ·cases he
   ·cases hU
  ·cases hU
 ·cases hm
end
end Go.Proofs.YtjniafcnjbbomaaGreatDoor.DE

namespace Go.Proofs.YtjniafcnjbbomaaGreatDoor.DE
open Go
section
variable {P:Program} {dp:Nat→Option Fn} {F F':Fix} {G G':List Gh} {w w':World} {S S':Store} {a:Act} {fr:List D} {o:Oper} {d:D}
theorem intOp_run {op:BinOp} {k:IntKind} {x y:Int} (t:TypeId) (h:intOp op k x y=some d) (h1:op ≠ .shl) (h2:op ≠ .shr) :
  ∃ v,(binOp op t (.int k x) (.int k y)).run P w = .ok v w∧Rel dp F G w v d:=by
 have ar:∀ _:Sem Value,(op = .add∨op = .sub∨op = .mul)→(binOp op t (.int k x) (.int k y)).run P w=(Op.intArith op k x y).run P w:=by
  rintro _ (rfl | rfl | rfl) <;> simp only [binOp,ne_eq,not_true_eq_false,if_false]
 have dv:(op = .quo∨op = .rem)→(binOp op t (.int k x) (.int k y)).run P w=(Op.intDiv op k x y).run P w:=by
  rintro (rfl | rfl) <;> simp only [binOp,ne_eq,not_true_eq_false,if_false]
 have bt:(op = .and∨op = .or∨op = .xor)→(binOp op t (.int k x) (.int k y)).run P w=(Op.intBits op k x y).run P w:=by
  rintro (rfl | rfl | rfl) <;> simp only [binOp,ne_eq,not_true_eq_false,if_false]
 have cm:(op = .eql∨op = .neq∨op = .lss∨op = .leq∨op = .gtr∨op = .geq)→(binOp op t (.int k x) (.int k y)).run P w=(Op.intCmp op x y).run P w:=by
  rintro (rfl | rfl | rfl | rfl | rfl | rfl) <;> simp only [binOp,ne_eq,not_true_eq_false,if_false]
 cases op with
 | add=>injection h with h;subst h;exact ⟨_,by rw [ar (pure undef) (by simp)];rfl,.i _ _⟩
 | sub=>injection h with h;subst h;exact ⟨_,by rw [ar (pure undef) (by simp)];rfl,.i _ _⟩
 | mul=>injection h with h;subst h;exact ⟨_,by rw [ar (pure undef) (by simp)];rfl,.i _ _⟩
 | quo=>
  simp only [intOp] at h
  split at h
  ·cases h
  ·rename_i hy
   injection h with h;subst h
   exact ⟨_,by rw [dv (by simp)];simp only [Op.intDiv,if_neg hy];rfl,.i _ _⟩
 | rem=>
  simp only [intOp] at h
  split at h
  ·cases h
  ·rename_i hy
   injection h with h;subst h
   exact ⟨_,by rw [dv (by simp)];simp only [Op.intDiv,if_neg hy];rfl,.i _ _⟩
 | and=>injection h with h;subst h;exact ⟨_,by rw [bt (by simp)];rfl,.i _ _⟩
 | or=>injection h with h;subst h;exact ⟨_,by rw [bt (by simp)];rfl,.i _ _⟩
 | xor=>injection h with h;subst h;exact ⟨_,by rw [bt (by simp)];rfl,.i _ _⟩
 | shl=>exact absurd rfl h1
 | shr=>exact absurd rfl h2
 | andNot=>cases h
 | eql=>injection h with h;subst h;exact ⟨_,by rw [cm (by simp)];rfl,.b _⟩
 | neq=>injection h with h;subst h;exact ⟨_,by rw [cm (by simp)];rfl,.b _⟩
 | lss=>injection h with h;subst h;exact ⟨_,by rw [cm (by simp)];rfl,.b _⟩
 | leq=>injection h with h;subst h;exact ⟨_,by rw [cm (by simp)];rfl,.b _⟩
 | gtr=>injection h with h;subst h;exact ⟨_,by rw [cm (by simp)];rfl,.b _⟩
 | geq=>injection h with h;subst h;exact ⟨_,by rw [cm (by simp)];rfl,.b _⟩
theorem run_equalIn_slice {t el:TypeId} (n:Nat) (hu:P.underlying t=some (.slice el)) (b:Option Addr) (m c:Nat):(Op.equalIn (n+1) t (.slice b m c) (.slice none 0 0)).run P w = .ok b.isNone w:=by
 simp only [Op.equalIn,Sem.run_bind,run_underlying hu,Result.andThen]
 cases b <;> rfl
theorem run_equalIn_map {t k el:TypeId} (n:Nat) (hu:P.underlying t=some (.map k el)) (b:Option Nat):(Op.equalIn (n+1) t (.map b) (.map none)).run P w = .ok b.isNone w:=by
 simp only [Op.equalIn,Sem.run_bind,run_underlying hu,Result.andThen]
 cases b <;> rfl
theorem shOp_run {op:BinOp} {k k':IntKind} {x y:Int} (t:TypeId) (h:shOp op k x y=some d) (h1:op = .shl∨op = .shr) :
  ∃ v,(binOp op t (.int k x) (.int k' y)).run P w = .ok v w∧Rel dp F G w v d:=by
 unfold shOp at h
 split at h
 ·cases h
 ·rename_i hy
  rcases h1 with rfl | rfl
  ·injection h with h;subst h
   exact ⟨_,by simp only [binOp,Op.shift,if_neg hy,Sem.run_pure],.i _ _⟩
  ·injection h with h;subst h
   exact ⟨_,by simp only [binOp,Op.shift,if_neg hy,Sem.run_pure],.i _ _⟩
theorem mSK_i {t:TypeId} (h:mSK P t .i=true):∃ k,P.underlying t=some (.int k):=by
 simp only [mSK,mU] at h
 split at h
 ·rename_i td htd
  split at h
  ·exact ⟨_,htd⟩
  ·cases h
 ·cases h
theorem mSK_b {t:TypeId} (h:mSK P t .b=true):P.underlying t=some .bool:=by
 simp only [mSK,mU] at h
 split at h
 ·rename_i td htd
  split at h
  ·exact htd
  ·cases h
 ·cases h
theorem mSK_s {t:TypeId} (h:mSK P t .s=true):P.underlying t=some .string:=by
 simp only [mSK,mU] at h
 split at h
 ·rename_i td htd
  split at h
  ·exact htd
  ·cases h
 ·cases h
theorem run_scal {t:TypeId} {k:SK} {x y:D} {u v:Value} {r:Bool} (n:Nat) (ht:mSK P t k=true) (hx:isSK k x=true) (hy:isSK k y=true) (hs:seq1 x y=some r)
  (hu:Rel dp F G w u x) (hv:Rel dp F G w v y):(Op.equalIn (n+1) t u v).run P w = .ok r w:=by
 cases k with
 | i=>
  cases hu <;> simp [isSK] at hx
  cases hv <;> simp [isSK] at hy
  obtain ⟨k,htd⟩:=mSK_i ht
  simp only [seq1] at hs
  split at hs
  ·rename_i hk
   subst hk
   injection hs with hs
   subst hs
   exact run_equalIn_int w n t _ _ _ _ htd
  ·cases hs
 | b=>
  cases hu <;> simp [isSK] at hx
  cases hv <;> simp [isSK] at hy
  simp only [seq1] at hs
  injection hs with hs
  subst hs
  exact run_equalIn_bool' w n t _ _ (mSK_b ht)
 | s=>
  cases hu <;> simp [isSK] at hx
  cases hv <;> simp [isSK] at hy
  simp only [seq1] at hs
  injection hs with hs
  subst hs
  rw [run_equalIn_string w n t _ _ (mSK_s ht)]
  simp [ByteArray.toList_eq]
theorem mSK_part {t:TypeId} {k:SK} {vs:Array Value} {j:Nat} {v:Value} (ht:mSK P t k=true) (hv:vs[j]? = some v):(part t vs j).run P w = .ok v w:=by
 have hag:(isAgg t).run P w = .ok false w:=by
  cases k with
  | i=>
   obtain ⟨k,htd⟩:=mSK_i ht
   simp only [isAgg,Sem.run_bind,run_underlying htd,Result.andThen,Sem.run_pure]
  | b=>simp only [isAgg,Sem.run_bind,run_underlying (mSK_b ht),Result.andThen,Sem.run_pure]
  | s=>simp only [isAgg,Sem.run_bind,run_underlying (mSK_s ht),Result.andThen,Sem.run_pure]
 simp only [part,Sem.run_bind,hag,Result.andThen,Bool.false_eq_true,if_false,hv,Sem.run_pure]
theorem seqL_length:∀ {ks:List SK} {xs ys:List D} {r:Bool},seqL ks xs ys=some r→xs.length=ks.length∧ys.length=ks.length
 | [],[],[],_,_=>⟨rfl,rfl⟩
 | [],_::_,_,_,h=>by simp [seqL] at h
 | [],[],_::_,_,h=>by simp [seqL] at h
 | _::_,[],_,_,h=>by simp [seqL] at h
 | _::_,_::_,[],_,h=>by simp [seqL] at h
 | k::ks,x::l,y::m,r,h=>by
  simp only [seqL] at h
  split at h
  ·split at h
   ·rename_i p q h1 h2
    have:=seqL_length h2
    simp [this.1,this.2]
   ·cases h
  ·cases h
theorem run_eqFields {vs us:Array Value} {n:Nat}:∀ {fs:List Field} {off:Nat} {ks:List SK} {xs ys:List D} {r:Bool},flatFields P fs off ks=true→seqL ks xs ys=some r →
  (∀ (j:Nat) (x:D),xs[j]? = some x→∃ v,vs[off+j]? = some v∧Rel dp F G w v x)→(∀ (j:Nat) (x:D),ys[j]? = some x→∃ v,us[off+j]? = some v∧Rel dp F G w v x) →
  (Op.eqFields (n+1) vs us fs).run P w = .ok r w
 | [],_,[],xs,ys,r,_,hs,_,_=>by
  obtain ⟨h1,h2⟩:=seqL_length hs
  cases xs <;> simp at h1
  cases ys <;> simp at h2
  simp only [seqL] at hs
  injection hs with hs
  subst hs
  rfl
 | [],_,_::_,_,_,_,hf,_,_,_=>by simp [flatFields] at hf
 | _::_,_,[],_,_,_,hf,_,_,_=>by simp [flatFields] at hf
 | f::fs,off,k::ks,xs,ys,r,hf,hs,hx,hy=>by
  simp only [flatFields,Bool.and_eq_true,bne_iff_ne,ne_eq,beq_iff_eq] at hf
  obtain ⟨⟨⟨⟨hn,hk⟩,hsz⟩,hoff⟩,hrest⟩:=hf
  match xs,ys with
  | [],_=>simp [seqL] at hs
  | _::_,[]=>simp [seqL] at hs
  | x::xs,y::ys=>
   simp only [seqL] at hs
   split at hs
   ·rename_i hc
    simp only [Bool.and_eq_true] at hc
    split at hs
    ·rename_i p q h1 h2
     injection hs with hs
     obtain ⟨v,hv,hrv⟩:=hx 0 x rfl
     obtain ⟨u,hu,hru⟩:=hy 0 y rfl
     have ih:=run_eqFields (n:=n) (vs:=vs) (us:=us) hrest h2 (fun j z hz=>by
      obtain ⟨v,a,b⟩:=hx (j+1) z (by simpa using hz)
      exact ⟨v,by rwa [show off+1+j=off+(j+1) by omega],b⟩) (fun j z hz=>by
      obtain ⟨v,a,b⟩:=hy (j+1) z (by simpa using hz)
      exact ⟨v,by rwa [show off+1+j=off+(j+1) by omega],b⟩)
     simp only [Nat.add_zero] at hv hu
     subst hoff
     simp only [Op.eqFields,ne_eq,hn,not_false_eq_true,if_true,Sem.run_bind,mSK_part hk hv,mSK_part hk hu,Result.andThen,run_scal n hk hc.1 hc.2 h1 hrv hru]
     subst hs
     cases p
     ·simp
     ·simpa using ih
    ·cases hs
   ·cases hs
theorem run_flat {t:TypeId} {ks:List SK} {xs ys:List D} {vs us:Array Value} {r:Bool} {n:Nat} (ht:mFlat P t ks=true) (hs:seqL ks xs ys=some r)
  (hu:Rel dp F G w (.agg vs) (.agg xs)) (hv:Rel dp F G w (.agg us) (.agg ys)):(Op.equalIn (n+2) t (.agg vs) (.agg us)).run P w = .ok r w∧P.eqGuardType P.depth t=false:=by
 have gx:∀ {vs:Array Value} {xs:List D},Rel dp F G w (.agg vs) (.agg xs)→∀ (j:Nat) (x:D),xs[j]? = some x→∃ v,vs[j]? = some v∧Rel dp F G w v x:=by
  intro vs xs h j x hx
  cases h with
  | agg _ _ hl h=>
   have hlt:j<vs.size:=by rw [hl];exact (List.getElem?_eq_some_iff.1 hx).1
   exact ⟨vs[j],Array.getElem?_eq_getElem hlt,h j _ x (Array.getElem?_eq_getElem hlt) hx⟩
 unfold mFlat at ht
 split at ht
 ·rename_i fs hfs
  simp only [Bool.and_eq_true,Bool.not_eq_true'] at ht
  obtain ⟨⟨h1,h2⟩,h3⟩:=ht
  refine ⟨?_,h2⟩
  have hfo:P.fieldsOf t=fs:=by simp [Program.fieldsOf,hfs]
  have ht':P.underlying t=some (.struct (P.fieldsOf t)):=by rw [hfo];exact hfs
  rw [run_equalIn_struct w (n+1) t vs us ht' h1,hfo]
  exact run_eqFields h3 hs (fun j x hx=>by rw [Nat.zero_add];exact gx hu j x hx) (fun j x hx=>by rw [Nat.zero_add];exact gx hv j x hx)
 ·rename_i m e he
  simp only [Bool.and_eq_true,Bool.not_eq_true',beq_iff_eq] at ht
  obtain ⟨⟨⟨⟨rfl,h2⟩,h3⟩,h4⟩,h5⟩:=ht
  refine ⟨?_,h2⟩
  match ks,h3 with
  | [k1,k2],_=>
   obtain ⟨l1,l2⟩:=seqL_length hs
   match xs,l1,ys,l2 with
   | [x1,x2],_,[y1,y2],_=>
    simp only [seqL] at hs
    split at hs
    ·rename_i hc1
     simp only [Bool.and_eq_true] at hc1
     split at hs
     ·rename_i p q hp hq
      injection hs with hs
      split at hq
      ·rename_i hc2
       simp only [Bool.and_eq_true] at hc2
       split at hq
       ·rename_i p2 q2 hp2 hq2
        injection hq with hq
        injection hq2 with hq2
        subst hq2 hq hs
        simp only [List.all_cons,List.all_nil,Bool.and_true,Bool.and_eq_true] at h4
        obtain ⟨v1,a1,b1⟩:=gx hu 0 x1 rfl
        obtain ⟨v2,a2,b2⟩:=gx hu 1 x2 rfl
        obtain ⟨u1,c1,e1⟩:=gx hv 0 y1 rfl
        obtain ⟨u2,c2,e2⟩:=gx hv 1 y2 rfl
        have q1:=run_scal (P:=P) (n:=n) h4.1 hc1.1 hc1.2 hp b1 e1
        have q2:=run_scal (P:=P) (n:=n) h4.2 hc2.1 hc2.2 hp2 b2 e2
        obtain ⟨m,hm⟩:∃ m,m=n+1:=⟨_,rfl⟩
        rw [←hm] at q1 q2
        rw [show n+2=m+1 by omega]
        have w1:=mSK_part (P:=P) (w:=w) h4.1 a1
        have w2:=mSK_part (P:=P) (w:=w) h4.2 a2
        have w3:=mSK_part (P:=P) (w:=w) h4.1 c1
        have w4:=mSK_part (P:=P) (w:=w) h4.2 c2
        simp only [Op.equalIn,Sem.run_bind,run_underlying he,Result.andThen,run_sizeOf_of h5 w,Nat.mul_one]
        simp only [Std.Legacy.Range.forIn_eq_forIn_range',Std.Legacy.Range.size,List.range']
        simp only [List.forIn_cons,Sem.run_bind,Result.andThen,w1,w3,q1]
        cases p
        ·rfl
        ·simp only [Bool.not_true,Bool.false_eq_true,if_false,Sem.run_pure,Sem.run_bind,Result.andThen,Nat.zero_add,w2,w4,q2]
         cases p2
         ·rfl
         ·rfl
       ·cases hq
      ·cases hq
     ·cases hs
    ·cases hs
 ·cases ht
theorem eqD_run {op:BinOp} {r:Bool} (h:eqD op (some r)=some d):(op = .eql∧d = .b r)∨(op = .neq∧d = .b (!r)):=by
 unfold eqD at h
 split at h
 ·rename_i he;injection he with he;subst he;injection h with h;exact .inl ⟨rfl,h.symm⟩
 ·rename_i he;injection he with he;subst he;injection h with h;exact .inr ⟨rfl,h.symm⟩
 ·cases h
theorem pur_bin {op:BinOp} {q:Q} {y z:A} (hm:mR P dp o.op (.bin op q y z)=true) (hf:Fr dp F G w a fr) (he:binD op q (av fr y) (av fr z)=some d):Pur P dp F G w a o d:=by
 simp only [mR] at hm
 split at hm
 ·rename_i op' t x v ty ho
  simp only [Bool.and_eq_true,decide_eq_true_eq] at hm
  obtain ⟨⟨⟨rfl,hq⟩,hx⟩,hv⟩:=hm
  have r1:=hf.eval hx
  have r2:=hf.eval hv
  generalize hv1:a.eval x=v1 at r1
  generalize hv2:a.eval v=v2 at r2
  generalize av fr y=e1 at r1 he
  generalize av fr z=e2 at r2 he
  have fin:(∃ u,(do eqGuard op t x v v1 v2;binOp op t v1 v2:Sem Value).run P w = .ok u w∧Rel dp F G w u d)→Pur P dp F G w a o d:=by
   rintro ⟨u,hu,hr⟩
   refine ⟨u,?_,hr⟩
   simp only [execOp,ho,hv1,hv2,Sem.run_bind,Result.andThen] at hu ⊢
   rw [hu]
   rfl
  apply fin
  clear fin
  unfold binD at he
  split at he
  ·
   cases r1;cases r2
   simp only [eqGuard_at_int,pure_bind]
   split at he
   ·exact shOp_run t he (.inl rfl)
   ·exact shOp_run t he (.inr rfl)
   ·rename_i h1 h2
    split at he
    ·rename_i hk
     subst hk
     exact intOp_run t he (fun h=>h1 h) (fun h=>h2 h)
    ·cases he
  ·
   cases r1;cases r2
   rename_i l m
   simp only [eqGuard_at_string,pure_bind]
   have hl:(⟨l.toArray⟩:ByteArray).toList=l:=by simp [ByteArray.toList_eq]
   have hm:(⟨m.toArray⟩:ByteArray).toList=m:=by simp [ByteArray.toList_eq]
   have hsl:(⟨l.toArray⟩:ByteArray).size=l.length:=by show l.toArray.size=_;simp
   have hsm:(⟨m.toArray⟩:ByteArray).size=m.length:=by show m.toArray.size=_;simp
   split at he
   ·split at he
    ·rename_i hle
     injection he with he;subst he
     refine ⟨.string ⟨(l++m).toArray⟩,?_,.s _⟩
     have:¬((l.length+m.length:Nat):Int) > IntKind.i64.max:=by
      have e:IntKind.i64.max=9223372036854775807:=by decide
      rw [e];omega
     have ha:(⟨l.toArray⟩:ByteArray)++⟨m.toArray⟩=⟨(l++m).toArray⟩:=by
      apply ByteArray.ext
      rw [ByteArray.data_append]
      simp
     simp only [binOp,Op.stringOp,hsl,hsm,if_neg this,ha,Sem.run_pure]
    ·cases he
   ·injection he with he;subst he
    exact ⟨_,by simp only [binOp,Op.stringOp,hl,hm,Sem.run_pure],.b _⟩
   ·injection he with he;subst he
    exact ⟨_,by simp only [binOp,Op.stringOp,hl,hm,Sem.run_pure],.b _⟩
   ·injection he with he;subst he
    exact ⟨_,by simp only [binOp,Op.stringOp,hl,hm,Sem.run_pure],.b _⟩
   ·cases he
  ·
   cases r1;cases r2
   rename_i p q
   simp only [eqGuard_at_bool,pure_bind]
   have hu:P.underlying t=some .bool:=by
    simp only [mQ,mU] at hq
    split at hq
    ·rename_i td htd
     split at hq
     ·exact htd
     ·cases hq
    ·cases hq
   have hrun:(Op.equal t (.bool p) (.bool q)).run P w = .ok (p == q) w:=run_equalIn_bool' w 9999 t p q hu
   rcases eqD_run he with ⟨rfl,rfl⟩ | ⟨rfl,rfl⟩
   ·exact ⟨.bool (p == q),by simp only [binOp,Sem.run_bind,hrun,Result.andThen,Sem.run_pure],.b _⟩
   ·exact ⟨.bool (!(p == q)),by simp only [binOp,Sem.run_bind,hrun,Result.andThen,Sem.run_pure],.b _⟩
  ·
   rename_i ks xs ys
   have hq':mFlat P t ks=true:=hq
   cases hsq:seqL ks xs ys with
   | none=>rw [hsq] at he;unfold eqD at he;split at he <;> simp_all
   | some r=>
    rw [hsq] at he
    have hr1:=r1
    have hr2:=r2
    cases r1 with
    | agg vs _ hl1 h1=>
     cases r2 with
     | agg us _ hl2 h2=>
      obtain ⟨e1,e2⟩:=run_flat (P:=P) (n:=9998) hq' hsq hr1 hr2
      have g1:=run_eqGuard_agg w op t x v vs us e2
      rcases eqD_run he with ⟨rfl,rfl⟩ | ⟨rfl,rfl⟩
      ·refine ⟨.bool r,?_,.b _⟩
       rw [Sem.run_bind,g1,Result.andThen,run_eql_struct,e1]
       rfl
      ·refine ⟨.bool (!r),?_,.b _⟩
       rw [Sem.run_bind,g1,Result.andThen,run_neq_struct,e1]
       rfl
  ·
   obtain ⟨el,hu⟩:∃ el,P.underlying t=some (.slice el):=by
    simp only [mQ,mU] at hq
    split at hq
    ·rename_i td htd
     split at hq
     ·exact ⟨_,htd⟩
     ·cases hq
    ·cases hq
   cases r2
   cases r1
   ·simp only [eqGuard_at_slice,pure_bind]
    have hrun:(Op.equal t (.slice none 0 0) (.slice none 0 0)).run P w = .ok true w:=run_equalIn_slice 9999 hu none 0 0
    rcases eqD_run he with ⟨rfl,rfl⟩ | ⟨rfl,rfl⟩
    ·exact ⟨.bool true,by simp only [binOp,Sem.run_bind,hrun,Result.andThen,Sem.run_pure],.b _⟩
    ·exact ⟨.bool false,by simp only [binOp,Sem.run_bind,hrun,Result.andThen,Sem.run_pure];rfl,.b _⟩
   ·rename_i blk off cap c hk hcap h1 h2 ho
    simp only [eqGuard_at_slice,pure_bind]
    have hrun:∀ n,(Op.equal t (.slice (some ⟨blk,off,none⟩) n cap) (.slice none 0 0)).run P w = .ok false w:=fun n=>run_equalIn_slice 9999 hu _ n cap
    rcases eqD_run he with ⟨rfl,rfl⟩ | ⟨rfl,rfl⟩
    ·exact ⟨.bool false,by simp only [binOp,Sem.run_bind,hrun,Result.andThen,Sem.run_pure],.b _⟩
    ·exact ⟨.bool true,by simp only [binOp,Sem.run_bind,hrun,Result.andThen,Sem.run_pure];rfl,.b _⟩
   ·rename_i ad cap
    simp only [eqGuard_at_slice,pure_bind]
    have hrun:(Op.equal t (.slice (some ad) 0 cap) (.slice none 0 0)).run P w = .ok false w:=run_equalIn_slice 9999 hu _ 0 cap
    rcases eqD_run he with ⟨rfl,rfl⟩ | ⟨rfl,rfl⟩
    ·exact ⟨.bool false,by simp only [binOp,Sem.run_bind,hrun,Result.andThen,Sem.run_pure],.b _⟩
    ·exact ⟨.bool true,by simp only [binOp,Sem.run_bind,hrun,Result.andThen,Sem.run_pure];rfl,.b _⟩
  ·
   obtain ⟨k,el,hu⟩:∃ k el,P.underlying t=some (.map k el):=by
    simp only [mQ,mU] at hq
    split at hq
    ·rename_i td htd
     split at hq
     ·exact ⟨_,_,htd⟩
     ·cases hq
    ·cases hq
   cases r1;cases r2
   simp only [eqGuard_at_map,pure_bind]
   have hrun:(Op.equal t (.map none) (.map none)).run P w = .ok true w:=run_equalIn_map 9999 hu none
   rcases eqD_run he with ⟨rfl,rfl⟩ | ⟨rfl,rfl⟩
   ·exact ⟨.bool true,by simp only [binOp,Sem.run_bind,hrun,Result.andThen,Sem.run_pure],.b _⟩
   ·exact ⟨.bool false,by simp only [binOp,Sem.run_bind,hrun,Result.andThen,Sem.run_pure];rfl,.b _⟩
  ·obtain ⟨k,el,hu⟩:∃ k el,P.underlying t=some (.map k el):=by
    simp only [mQ,mU] at hq
    split at hq
    ·rename_i td htd
     split at hq
     ·exact ⟨_,_,htd⟩
     ·cases hq
    ·cases hq
   cases r1;cases r2
   rename_i id g hg
   simp only [eqGuard_at_map,pure_bind]
   have hrun:(Op.equal t (.map (some g.blk)) (.map none)).run P w = .ok false w:=run_equalIn_map 9999 hu _
   rcases eqD_run he with ⟨rfl,rfl⟩ | ⟨rfl,rfl⟩
   ·exact ⟨.bool false,by simp only [binOp,Sem.run_bind,hrun,Result.andThen,Sem.run_pure],.b _⟩
   ·exact ⟨.bool true,by simp only [binOp,Sem.run_bind,hrun,Result.andThen,Sem.run_pure];rfl,.b _⟩
  ·cases he
 ·cases hm
end
end Go.Proofs.YtjniafcnjbbomaaGreatDoor.DE

namespace Go.Proofs.YtjniafcnjbbomaaGreatDoor.DE
open Go
section
variable {P:Program} {dp:Nat→Option Fn} {F F':Fix} {G G':List Gh} {w w':World} {S S':Store} {a:Act} {fr:List D} {o:Oper} {d:D}
theorem agg_get {vs:Array Value} {xs:List D} (h:Rel dp F G w (.agg vs) (.agg xs)):vs.size=xs.length∧∀ (j:Nat) (x:D),xs[j]? = some x→∃ v,vs[j]? = some v∧Rel dp F G w v x:=by
 cases h with
 | agg _ _ hl h=>
  refine ⟨hl,fun j x hx=>?_⟩
  have hlt:j<vs.size:=by rw [hl];exact (List.getElem?_eq_some_iff.1 hx).1
  exact ⟨vs[j],Array.getElem?_eq_getElem hlt,h j _ x (Array.getElem?_eq_getElem hlt) hx⟩
theorem rel_agg {v:Value} {xs:List D} (h:Rel dp F G w v (.agg xs)):∃ vs,v = .agg vs:=by
 cases h;exact ⟨_,rfl⟩
theorem run_checkKey1 {t:TypeId} {k:SK} {v:Value} (e:Bool) (n:Nat) (ht:mSK P t k=true):(Instr.checkKey e (n+1) t v).run P w = .ok () w:=by
 cases k with
 | i=>
  obtain ⟨k,htd⟩:=mSK_i ht
  simp only [Instr.checkKey,Sem.run_bind,run_underlying htd,Result.andThen]
  rfl
 | b=>
  simp only [Instr.checkKey,Sem.run_bind,run_underlying (mSK_b ht),Result.andThen]
  rfl
 | s=>
  simp only [Instr.checkKey,Sem.run_bind,run_underlying (mSK_s ht),Result.andThen]
  rfl
theorem isSKL_length:∀ {ks:List SK} {xs:List D},isSKL ks xs=true→xs.length=ks.length
 | [],[],_=>rfl
 | [],_::_,h=>by simp [isSKL] at h
 | _::_,[],h=>by simp [isSKL] at h
 | _::ks,_::xs,h=>by
  simp only [isSKL,Bool.and_eq_true] at h
  simp [isSKL_length h.2]
theorem run_checkFields {vs:Array Value} {e:Bool} {n:Nat}:∀ {fs:List Field} {off:Nat} {ks:List SK} {xs:List D},flatFields P fs off ks=true→xs.length=ks.length →
  (∀ (j:Nat) (x:D),xs[j]? = some x→∃ v,vs[off+j]? = some v∧Rel dp F G w v x) →
  (forIn fs PUnit.unit fun f _=>(do
   if f.name ≠ "_" then
    let x ←part f.type vs f.offset
    Instr.checkKey e (n+1) f.type x
    pure (ForInStep.yield PUnit.unit)
   else pure (ForInStep.yield PUnit.unit):Sem (ForInStep PUnit))).run P w = .ok PUnit.unit w
 | [],_,_,_,_,_,_=>rfl
 | _::_,_,[],_,hf,_,_=>by simp [flatFields] at hf
 | f::fs,off,k::ks,xs,hf,hl,hx=>by
  simp only [flatFields,Bool.and_eq_true,bne_iff_ne,ne_eq,beq_iff_eq] at hf
  obtain ⟨⟨⟨⟨hn,hk⟩,hsz⟩,hoff⟩,hrest⟩:=hf
  match xs with
  | []=>simp at hl
  | x::xs=>
   obtain ⟨v,hv,hrv⟩:=hx 0 x rfl
   have ih:=run_checkFields (e:=e) (n:=n) (vs:=vs) (xs:=xs) hrest (by simpa using hl) (fun j z hz=>by
      obtain ⟨v,a,b⟩:=hx (j+1) z (by simpa using hz)
      exact ⟨v,by rwa [show off+1+j=off+(j+1) by omega],b⟩)
   simp only [Nat.add_zero] at hv
   subst hoff
   simp only [List.forIn_cons,ne_eq,hn,not_false_eq_true,if_true,Sem.run_bind,mSK_part hk hv,Result.andThen,run_checkKey1 e n hk,Sem.run_pure]
   simpa only [ne_eq] using ih
theorem run_checkKey {t:TypeId} {kk:KK} {x:D} {v:Value} (e:Bool) (n:Nat) (ht:mKey P t kk=true) (hx:isKey kk x=true) (hr:Rel dp F G w v x) :
  (Instr.checkKey e (n+2) t v).run P w = .ok () w:=by
 cases kk with
 | one k=>exact run_checkKey1 e (n+1) ht
 | agg ks=>
  cases x <;> simp [isKey] at hx
  rename_i xs
  obtain ⟨vs,rfl⟩:=rel_agg hr
  obtain ⟨hsz,hg⟩:=agg_get hr
  have hl:=isSKL_length hx
  simp only [mKey] at ht
  unfold mFlat at ht
  split at ht
  ·rename_i fs hfs
   simp only [Bool.and_eq_true,Bool.not_eq_true'] at ht
   rw [Instr.checkKey]
   simp only [Sem.run_bind,run_underlying hfs,Result.andThen]
   rw [←Array.forIn_toList]
   have:=run_checkFields (P:=P) (e:=e) (n:=n) (vs:=vs) (off:=0) ht.2 hl (fun j x hx=>by rw [Nat.zero_add];exact hg j x hx)
   simp only [Sem.run_bind,this,Result.andThen,Sem.run_pure]
  ·rename_i m el he
   simp only [Bool.and_eq_true,Bool.not_eq_true',beq_iff_eq] at ht
   obtain ⟨⟨⟨⟨rfl,h2⟩,h3⟩,h4⟩,h5⟩:=ht
   match ks,h3 with
   | [k1,k2],_=>
    match xs,hl with
    | [x1,x2],_=>
     simp only [List.all_cons,List.all_nil,Bool.and_true,Bool.and_eq_true] at h4
     obtain ⟨v1,a1,b1⟩:=hg 0 x1 rfl
     obtain ⟨v2,a2,b2⟩:=hg 1 x2 rfl
     have w1:=mSK_part (P:=P) (w:=w) h4.1 a1
     have w2:=mSK_part (P:=P) (w:=w) h4.2 a2
     obtain ⟨m,hm⟩:∃ m,m=n+1:=⟨_,rfl⟩
     have q1:=run_checkKey1 (P:=P) (w:=w) (v:=v1) e n h4.1
     have q2:=run_checkKey1 (P:=P) (w:=w) (v:=v2) e n h4.2
     rw [←hm] at q1 q2
     rw [show n+2=m+1 by omega,Instr.checkKey]
     simp only [Sem.run_bind,run_underlying he,Result.andThen,run_sizeOf_of h5 w,Nat.mul_one]
     simp only [Std.Legacy.Range.forIn_eq_forIn_range',Std.Legacy.Range.size,List.range']
     simp only [List.forIn_cons,List.forIn_nil,Sem.run_bind,Result.andThen,run_sizeOf_of h5 w,Nat.mul_one,w1,q1,Sem.run_pure,Nat.zero_add,w2,q2]
  ·cases ht
def EsOk (dp:Nat→Option Fn) (F:Fix) (G:List Gh) (w:World) (l:List MapEntry) (es:List (D × D)):Prop:=
 l.length=es.length∧∀ (j:Nat) (e:MapEntry) (d:D × D),l[j]? = some e→es[j]? = some d→Rel dp F G w e.key d.1∧Rel dp F G w e.val d.2
theorem EsOk.tail {e:MapEntry} {l:List MapEntry} {x:D × D} {es:List (D × D)} (h:EsOk dp F G w (e::l) (x::es)):EsOk dp F G w l es:=
 ⟨by simpa using h.1,fun j e d he hd=>h.2 (j+1) e d (by simpa using he) (by simpa using hd)⟩
theorem EsOk.head {e:MapEntry} {l:List MapEntry} {x:D × D} {es:List (D × D)} (h:EsOk dp F G w (e::l) (x::es)):Rel dp F G w e.key x.1∧Rel dp F G w e.val x.2:=h.2 0 e x rfl rfl
def hit (l:List MapEntry) (j:Nat):Option Nat→Option (Nat × Value)
 | none=>none
 | some p=>some (p,((l[p-j]?).map (·.val)).getD undef)
theorem hit_cons (e:MapEntry) (l:List MapEntry) (j:Nat) (r:Option Nat) (h:∀ p,r=some p→j+1≤p):hit (e::l) j r=hit l (j+1) r:=by
 cases r with
 | none=>rfl
 | some p=>
  have:=h p rfl
  simp only [hit]
  rw [show p-j=(p-(j+1))+1 by omega]
  simp
theorem posD_ge {kk:KK} {key:D}:∀ {es:List (D × D)} {j:Nat} {p:Nat},posD kk key es j=some (some p)→j≤p
 | [],_,_,h=>by simp [posD] at h
 | (k,_)::es,j,p,h=>by
  simp only [posD] at h
  split at h
  ·injection h with h;injection h with h;omega
  ·have:=posD_ge h;omega
  ·cases h
theorem findNow_pos {k:SK} {t:TypeId} {td:TypeDesc} {key:D} {u:Value} (ht:mSK P t k=true) (htd:P.underlying t=some td) (hr:Rel dp F G w u key) :
  ∀ {l:List MapEntry} {es:List (D × D)} {j:Nat} {r:Option Nat},EsOk dp F G w l es→posD (.one k) key es j=some r→Instr.findNow td u l j=some (hit l j r)
 | [],[],j,r,_,h=>by
  simp only [posD] at h
  injection h with h;subst h;rfl
 | [],_::_,_,_,he,_=>by simp [EsOk] at he
 | _::_,[],_,_,he,_=>by simp [EsOk] at he
 | e::l,(x,v)::es,j,r,he,h=>by
  obtain ⟨hk,hv⟩:=he.head
  have same:∀ b,keq (.one k) key x=some b→Instr.sameNow td u e.key=some b:=by
   intro b hb
   simp only [keq] at hb
   split at hb
   ·rename_i hc
    simp only [Bool.and_eq_true] at hc
    cases k with
    | i=>
     obtain ⟨q,hq⟩:=mSK_i ht
     rw [htd] at hq;injection hq with hq;subst hq
     cases hr <;> simp [isSK] at hc
     generalize e.key=ek at hk
     cases hk <;> simp [isSK] at hc
     simpa [Instr.sameNow,seq1] using hb
    | b=>
     have hq:=mSK_b ht
     rw [htd] at hq;injection hq with hq;subst hq
     cases hr <;> simp [isSK] at hc
     generalize e.key=ek at hk
     cases hk <;> simp [isSK] at hc
     simpa [Instr.sameNow,seq1] using hb
    | s=>
     have hq:=mSK_s ht
     rw [htd] at hq;injection hq with hq;subst hq
     cases hr <;> simp [isSK] at hc
     generalize e.key=ek at hk
     cases hk <;> simp [isSK] at hc
     rename_i p q
     simp only [seq1] at hb
     injection hb with hb
     subst hb
     simp only [Instr.sameNow]
     rw [beq_toListBytes]
     simp [ByteArray.toList_eq]
   ·cases hb
  simp only [posD] at h
  split at h
  ·rename_i hb
   injection h with h;subst h
   simp only [Instr.findNow,same _ hb,hit,Nat.sub_self]
   rfl
  ·rename_i hb
   simp only [Instr.findNow,same _ hb]
   rw [findNow_pos ht htd hr he.tail h,hit_cons]
   rintro p rfl
   exact posD_ge h
  ·cases h
theorem findAsking_pos {ks:List SK} {t:TypeId} {key:D} {u:Value} (ht:mFlat P t ks=true) (hr:Rel dp F G w u key) :
  ∀ {l:List MapEntry} {es:List (D × D)} {j:Nat} {r:Option Nat},EsOk dp F G w l es→posD (.agg ks) key es j=some r→(Instr.findAsking t u l j).run P w = .ok (hit l j r) w
 | [],[],j,r,_,h=>by
  simp only [posD] at h
  injection h with h;subst h;rfl
 | [],_::_,_,_,he,_=>by simp [EsOk] at he
 | _::_,[],_,_,he,_=>by simp [EsOk] at he
 | e::l,(x,v)::es,j,r,he,h=>by
  obtain ⟨hk,hv⟩:=he.head
  have same:∀ b,keq (.agg ks) key x=some b→(Op.equal t u e.key).run P w = .ok b w:=by
   intro b hb
   cases key <;> simp only [keq] at hb <;> try (cases hb;done)
   cases x <;> simp only at hb <;> try (cases hb;done)
   obtain ⟨vs,rfl⟩:=rel_agg hr
   obtain ⟨us,hus⟩:=rel_agg hk
   simp only at hk hus
   rw [hus] at hk ⊢
   exact (run_flat (P:=P) (n:=9998) ht hb hr hk).1
  simp only [posD] at h
  split at h
  ·rename_i hb
   injection h with h;subst h
   simp only [Instr.findAsking,Sem.run_bind,same _ hb,Result.andThen,if_true,Sem.run_pure,hit,Nat.sub_self]
   rfl
  ·rename_i hb
   simp only [Instr.findAsking,Sem.run_bind,same _ hb,Result.andThen,Bool.false_eq_true,if_false]
   rw [findAsking_pos ht hr he.tail h,hit_cons]
   rintro p rfl
   exact posD_ge h
  ·cases h
theorem run_find {kk:KK} {t:TypeId} {key:D} {u:Value} {l:List MapEntry} {es:List (D × D)} {r:Option Nat} (ht:mKey P t kk=true) (hr:Rel dp F G w u key) (hkey:isKey kk key=true)
  (he:EsOk dp F G w l es) (h:posD kk key es 0=some r):(Instr.findKey t u l).run P w = .ok (hit l 0 r) w:=by
 cases kk with
 | one k=>
  have hT:∃ td,P.underlying t=some td:=by
   cases k with
   | i=>obtain ⟨q,hq⟩:=mSK_i ht;exact ⟨_,hq⟩
   | b=>exact ⟨_,mSK_b ht⟩
   | s=>exact ⟨_,mSK_s ht⟩
  obtain ⟨td,htd⟩:=hT
  simp only [Instr.findKey,Sem.run_bind,run_underlying htd,Result.andThen,findNow_pos ht htd hr he h,Sem.run_pure]
 | agg ks=>
  simp only [mKey] at ht
  have hT:∃ td,P.underlying t=some td∧∀ v u,(∃ vs,v=Value.agg vs)→Instr.sameNow td v u=none:=by
   unfold mFlat at ht
   split at ht
   ·rename_i fs hfs
    refine ⟨_,hfs,?_⟩
    rintro _ u ⟨vs,rfl⟩
    simp [Instr.sameNow]
   ·rename_i n e hfs
    refine ⟨_,hfs,?_⟩
    rintro _ u ⟨vs,rfl⟩
    simp [Instr.sameNow]
   ·cases ht
  obtain ⟨td,htd,hsame⟩:=hT
  cases key <;> simp [isKey] at hkey
  have hag:=rel_agg hr
  cases l with
  | nil=>
   cases es with
   | nil=>
    simp only [posD] at h
    injection h with h;subst h
    simp only [Instr.findKey,Sem.run_bind,run_underlying htd,Result.andThen,Instr.findNow,Sem.run_pure,hit]
   | cons _ _=>simp [EsOk] at he
  | cons e l=>
   simp only [Instr.findKey,Sem.run_bind,run_underlying htd,Result.andThen,Instr.findNow,hsame u e.key hag]
   exact findAsking_pos ht hr he h
theorem lkD_pos {kk:KK} {key:D}:∀ {es:List (D × D)} {r:Option D} (j:Nat),lkD kk key es=some r→∃ p,posD kk key es j=some p ∧
  ((r=none∧p=none)∨∃ q k v,r=some v∧p=some (j+q)∧es[q]? = some (k,v))
 | [],r,j,h=>by
  simp only [lkD] at h
  injection h with h
  exact ⟨none,rfl,.inl ⟨h.symm,rfl⟩⟩
 | (k,v)::es,r,j,h=>by
  simp only [lkD] at h
  split at h
  ·rename_i hk
   injection h with h
   exact ⟨some j,by simp [posD,hk],.inr ⟨0,k,v,h.symm,rfl,rfl⟩⟩
  ·rename_i hk
   obtain ⟨p,hp,hh⟩:=lkD_pos (j+1) h
   refine ⟨p,by simp [posD,hk,hp],?_⟩
   rcases hh with hh | ⟨q,k',v',h1,h2,h3⟩
   ·exact .inl hh
   ·exact .inr ⟨q+1,k',v',h1,by rw [h2];congr 1;omega,by simpa using h3⟩
  ·cases h
theorem run_zero1 {t:TypeId} {z:D} (h:mZ1 P t z=true):∃ v,(zeroValue t).run P w = .ok v w∧Rel dp F G w v z:=by
 unfold mZ1 at h
 split at h
 ·rename_i i hi
  split at h
  ·rename_i v hv
   exact ⟨v,by simp only [zeroValue,typeInfo,Sem.run_bind,run_program,Result.andThen,hi,hv,Sem.run_pure],mV_rel h⟩
  ·cases h
 ·cases h
theorem map_ents {id:Nat} {g:Gh} {es:List (D × D)} (hs:Sim dp F G w S) (hsg:sget S id=some (.map es)) (hg:sget G id=some g) :
  ∃ ents:Array MapEntry,w.heap[g.blk]? = some (.map ents es.length)∧ents.size=es.length∧EsOk dp F G w ents.toList es∧∀ (j:Nat) (e:MapEntry),ents[j]? = some e→e.born=j:=by
 obtain ⟨ents,h1,h2,h3⟩:=hs.ent id _ g hsg hg
 refine ⟨ents,h1,h2,⟨by simpa using h2,fun j e d he hd=>(h3 j e d (by simpa using he) hd).2⟩,fun j e he=>?_⟩
 have hlt:j<es.length:=by rw [←h2];exact (Array.getElem?_eq_some_iff.1 he).1
 exact (h3 j e es[j] he (List.getElem?_eq_getElem hlt)).1
theorem run_getObj {r:Nat} {es:Array MapEntry} {c:Nat} (h:w.heap[r]? = some (.map es c)):(getObj r).run P w = .ok (.map es c) w:=by
 simp only [getObj,Sem.run,h]
def lkRes (ok:Bool) (z:D):Option D→D
 | some v=>if ok then .tup [v,.b true] else v
 | none=>if ok then .tup [z,.b false] else z
def lkIn (kk:KK) (S:Store) (key m:D):Option (Option D):=
 match m with
 | .nilm=>some none
 | .mp id=>match sget S id with
  | some (.map es)=>lkD kk key es
  | _=>none
 | _=>none
theorem rel_two {u v:Value} {x y:D} (h1:Rel dp F G w u x) (h2:Rel dp F G w v y):Rel dp F G w (.tuple #[u,v]) (.tup [x,y]):=by
 refine .tup _ _ rfl fun j v d hv hd=>?_
 match j with
 | 0=>simp at hv hd;subst hv hd;exact h1
 | 1=>simp at hv hd;subst hv hd;exact h2
 | j+2=>simp at hd
theorem pur_lk {kk:KK} {ok:Bool} {z:D} {m key:A} {r:Option D} (hm:mR P dp o.op (.lk kk ok z m key)=true) (hs:Sim dp F G w S) (hf:Fr dp F G w a fr) (hk:isKey kk (av fr key)=true)
  (he:lkIn kk S (av fr key) (av fr m)=some r):Pur P dp F G w a o (lkRes ok z r):=by
 simp only [mR] at hm
 split at hm
 ·rename_i t x i ok' ho
  simp only [Bool.and_eq_true,beq_iff_eq] at hm
  obtain ⟨⟨⟨rfl,ht⟩,hx⟩,hi⟩:=hm
  split at ht
  ·rename_i kt et hu
   simp only [Bool.and_eq_true] at ht
   obtain ⟨hkt,hz⟩:=ht
   have r1:=hf.eval hx
   have r2:=hf.eval hi
   generalize hv1:a.eval x=v1 at r1
   generalize hv2:a.eval i=v2 at r2
   generalize av fr key=kd at r2 hk he
   generalize av fr m=md at r1 he
   obtain ⟨zv,hzr,hzrel⟩:=run_zero1 (P:=P) (dp:=dp) (F:=F) (G:=G) (w:=w) hz
   have rel_none:Rel dp F G w (if ok then .tuple #[zv,.bool false] else zv) (lkRes ok z none):=by
    cases ok
    ·exact hzrel
    ·exact rel_two hzrel (.b _)
   unfold lkIn at he
   cases r1 <;> simp only at he <;> try (cases he;done)
   ·injection he with he;subst he
    refine ⟨_,?_,rel_none⟩
    have hfk:=run_find (P:=P) (t:=kt) (es:=[]) (l:=[]) hkt r2 hk ⟨rfl,fun j e d h=>by simp at h⟩ (r:=none) rfl
    have hck:=fun b=>run_checkKey (P:=P) (w:=w) b 9998 hkt hk r2
    simp only [execOp,ho,hv1,hv2,Instr.lookup,Sem.run_bind,run_underlying hu,Result.andThen,Sem.run_pure,hck,hfk,hit,hzr]
   ·rename_i id g hg
    split at he
    ·rename_i es hsg
     obtain ⟨ents,h1,h2,h3,h4⟩:=map_ents hs hsg hg
     obtain ⟨p,hp,hh⟩:=lkD_pos 0 he
     have hfk:=run_find (P:=P) (t:=kt) hkt r2 hk h3 hp
     have hck:=fun b=>run_checkKey (P:=P) (w:=w) b 9998 hkt hk r2
     rcases hh with ⟨rfl,rfl⟩ | ⟨q,k,v,rfl,rfl,hq⟩
     ·refine ⟨_,?_,rel_none⟩
      simp only [execOp,ho,hv1,hv2,Instr.lookup,Sem.run_bind,run_underlying hu,Result.andThen,Sem.run_pure,run_getObj h1,hck,hfk,hit,hzr]
     ·have hlt:q<ents.size:=by rw [h2];exact (List.getElem?_eq_some_iff.1 hq).1
      obtain ⟨hkr,hvr⟩:=h3.2 q ents[q] (k,v) (by simp [hlt]) hq
      refine ⟨if ok then .tuple #[ents[q].val,.bool true] else ents[q].val,?_,?_⟩
      ·simp only [execOp,ho,hv1,hv2,Instr.lookup,Sem.run_bind,run_underlying hu,Result.andThen,Sem.run_pure,run_getObj h1,hck,hfk,hit]
       simp [hlt]
      ·cases ok
       ·exact hvr
       ·exact rel_two hvr (.b _)
    ·cases he
  ·cases ht
 ·cases hm
end
end Go.Proofs.YtjniafcnjbbomaaGreatDoor.DE

namespace Go.Proofs.YtjniafcnjbbomaaGreatDoor.DE
open Go
section
variable {P:Program} {dp:Nat→Option Fn} {F F':Fix} {G G':List Gh} {w w':World} {S S':Store} {a:Act} {fr:List D} {o:Oper} {d:D}
theorem heap_lt {b:Nat} {x:Obj} (h:w.heap[b]? = some x):b<w.heap.size:=(Array.getElem?_eq_some_iff.1 h).1
theorem Sim.lt (hs:Sim dp F G w S) {id:Nat} {e:Ent} {g:Gh} (h1:sget S id=some e) (h2:sget G id=some g) (hh:holds e):g.blk<w.heap.size:=by
 have:=hs.ent id e g h1 h2
 cases e with
 | box cs=>obtain ⟨vs,T,h,_⟩:=this;exact heap_lt h
 | tok al=>
  cases al with
  | true=>obtain ⟨vs,T,h,_⟩:=this;exact heap_lt h
  | false=>exact hh.elim
 | map es=>obtain ⟨vs,h,_⟩:=this;exact heap_lt h
 | gone=>exact hh.elim
theorem Sim.fix_lt (hs:Sim dp F G w S) {b o:Nat} (h:F b o):b<w.heap.size:=by
 obtain ⟨v,hv⟩:=hs.fcell b o h
 exact World.block_lt_of_cell? w _ hv
theorem EntOk.keep {T:Nat→Prop} {g:Gh} {e:Ent} (h:EntOk dp F G w g e) (hh:holds e) (hG:∀ id g,sget G id=some g→sget G' id=some g)
  (hF:∀ b o,F b o→F' b o) (hcell:∀ b o,F b o→w'.cell? ⟨b,o,none⟩=w.cell? ⟨b,o,none⟩)
  (hnew:∀ b o,F' b o→F b o∨(T b∧∃ v,w'.cell? ⟨b,o,none⟩=some v)) (hb:w'.heap[g.blk]? = w.heap[g.blk]?) (hT:¬T g.blk):EntOk dp F' G' w' g e:=by
 have hn:∀ o,F' g.blk o→F g.blk o:=fun o h=>(hnew _ _ h).resolve_right fun h=>hT h.1
 cases e with
 | box cs=>
  obtain ⟨vs,T,h1,h2,h3,h4,h5⟩:=h
  exact ⟨vs,T,hb.trans h1,h2,fun o h=>h3 o (hn o h),h4,fun m v d hv hd=>(h5 m v d hv hd).mono hF hG hcell⟩
 | tok al=>
  cases al with
  | true=>
   obtain ⟨vs,T,h1,h2,h3⟩:=h
   exact ⟨vs,T,hb.trans h1,h2,fun o ho h=>h3 o ho (hn o h)⟩
  | false=>exact hh.elim
 | map es=>
  obtain ⟨ents,h1,h2,h3⟩:=h
  exact ⟨ents,hb.trans h1,h2,fun j e d he hd=>⟨(h3 j e d he hd).1,(h3 j e d he hd).2.1.mono hF hG hcell,(h3 j e d he hd).2.2.mono hF hG hcell⟩⟩
 | gone=>exact hh.elim
theorem EntOk.free {g:Gh} {e:Ent} (h:¬holds e):EntOk dp F G w g e:=by
 cases e with
 | box cs=>exact (h trivial).elim
 | tok al=>
  cases al with
  | true=>exact (h trivial).elim
  | false=>trivial
 | map es=>exact (h trivial).elim
 | gone=>trivial
theorem Sim.step (T:Nat→Prop) (hs:Sim dp F G w S) (hlen:G'.length=S'.length) (hG:∀ id g,sget G id=some g→sget G' id=some g)
  (hF:∀ b o,F b o→F' b o) (hcell:∀ b o,F b o→w'.cell? ⟨b,o,none⟩=w.cell? ⟨b,o,none⟩)
  (hnew:∀ b o,F' b o→F b o∨(T b∧∃ v,w'.cell? ⟨b,o,none⟩=some v))
  (hheap:∀ b,b<w.heap.size→¬T b→w'.heap[b]? = w.heap[b]?)
  (hT:∀ b,T b→Owns S G b∨w.heap.size≤b)
  (hent:∀ id e g,sget S' id=some e→sget G' id=some g→¬holds e∨(sget S id=some e∧sget G id=some g∧¬T g.blk) ∨
   (T g.blk∧EntOk dp F' G' w' g e∧∀ j e' g',j≠id→sget S' j=some e'→sget G' j=some g'→holds e'→¬T g'.blk))
  (hsize:w.heap.size≤w'.heap.size) (hos:w'.os=w.os) (htape:w'.tape=w.tape) (hout:w'.output=w.output) :
  Sim dp F' G' w' S'∧Ext F G w S F' G' w' S':=by
 refine ⟨⟨hlen,?_,?_,?_⟩,⟨hF,hG,hcell,?_,?_,?_,hsize,hos,htape,hout⟩⟩
 ·intro b o h
  rcases hnew b o h with h | ⟨_,h⟩
  ·obtain ⟨v,hv⟩:=hs.fcell b o h
   exact ⟨v,(hcell b o h).trans hv⟩
  ·exact h
 ·intro id e g h1 h2
  rcases hent id e g h1 h2 with h | ⟨h3,h4,h5⟩ | ⟨_,h,_⟩
  ·exact EntOk.free h
  ·by_cases hh:holds e
   ·exact (hs.ent id e g h3 h4).keep hh hG hF hcell hnew (hheap _ (hs.lt h3 h4 hh) h5) h5
   ·exact EntOk.free hh
  ·exact h
 ·intro i j e e' g g' hij h1 h2 hh hh' hg hg'
  rcases hent i e g h1 hg with h | ⟨a1,a2,a3⟩ | ⟨a1,_,a3⟩
  ·exact (h hh).elim
  ·rcases hent j e' g' h2 hg' with h | ⟨b1,b2,b3⟩ | ⟨b1,_,b3⟩
   ·exact (h hh').elim
   ·exact hs.sep i j e e' g g' hij a1 b1 hh hh' a2 b2
   ·intro heq
    exact a3 (heq ▸ b1)
  ·intro heq
   exact a3 j e' g' (Ne.symm hij) h2 hg' hh' (heq ▸ a1)
 ·intro b hb ho
  refine hheap b hb fun h=>?_
  rcases hT b h with h | h
  ·exact ho h
  ·omega
 ·rintro b ⟨id,e,g,h1,h2,h3,rfl⟩
  rcases hent id e g h1 h3 with h | ⟨a1,a2,a3⟩ | ⟨a1,_,a3⟩
  ·exact (h h2).elim
  ·exact .inl ⟨id,e,g,a1,h2,a2,rfl⟩
  ·exact hT _ a1
 ·intro b o h
  rcases hnew b o h with h | ⟨h,_⟩
  ·exact .inl h
  ·exact .inr (hT b h)
structure Grown (w:World) (x:Obj) (w':World):Prop where
 heap:w'.heap=w.heap.push x
 os:w'.os=w.os
 tape:w'.tape=w.tape
 output:w'.output=w.output
theorem grown_alloc (w:World) (x:Obj):Grown w x (w.alloc x):=⟨rfl,rfl,rfl,rfl⟩
theorem grown_drew (w:World) (x:Obj):Grown w x (w.drew.alloc x):=⟨rfl,rfl,rfl,rfl⟩
theorem Grown.old {x:Obj} (h:Grown w x w') {b:Nat} (hb:b<w.heap.size):w'.heap[b]? = w.heap[b]?:=by
 rw [h.heap,Array.getElem?_push,if_neg (by omega)]
theorem Grown.new {x:Obj} (h:Grown w x w'):w'.heap[w.heap.size]? = some x:=by
 rw [h.heap,Array.getElem?_push,if_pos rfl]
theorem Grown.cell {x:Obj} (h:Grown w x w') {b o:Nat} (hb:b<w.heap.size):w'.cell? ⟨b,o,none⟩=w.cell? ⟨b,o,none⟩:=
 World.cell?_of_block (a:=⟨b,o,none⟩) (h.old hb)
theorem Grown.size {x:Obj} (h:Grown w x w'):w'.heap.size=w.heap.size+1:=by rw [h.heap,Array.size_push]
theorem Sim.push (hs:Sim dp F G w S) {x:Obj} (hg:Grown w x w') {S0:Store} (hl0:S0.length=S.length) (h0:∀ id e,sget S0 id=some e→sget S id=some e∨¬holds e)
  (g:Gh) (hgb:g.blk=w.heap.size) (e:Ent) (hF:∀ b o,F b o→F' b o) (hnew:∀ b o,F' b o→F b o∨(b=w.heap.size∧∃ v,w'.cell? ⟨b,o,none⟩=some v))
  (he:EntOk dp F' (g::G) w' g e):Sim dp F' (g::G) w' (e::S0)∧Ext F G w S F' (g::G) w' (e::S0):=by
 have hlt:∀ {j e' g'},j≠S0.length→sget (e::S0) j=some e'→sget (g::G) j=some g'→sget S0 j=some e'∧sget G j=some g':=by
  intro j e' g' hj h1 h2
  simp only [sget] at h1 h2
  rw [if_neg hj] at h1
  rw [if_neg (by rw [hs.len,←hl0];exact hj)] at h2
  exact ⟨h1,h2⟩
 have hold:∀ {j e' g'},j≠S0.length→sget (e::S0) j=some e'→sget (g::G) j=some g'→holds e'→sget S j=some e'∧sget G j=some g'∧g'.blk<w.heap.size:=by
  intro j e' g' hj h1 h2 hh
  obtain ⟨a,b⟩:=hlt hj h1 h2
  rcases h0 _ _ a with a | a
  ·exact ⟨a,b,hs.lt a b hh⟩
  ·exact (a hh).elim
 refine hs.step (fun b=>b=w.heap.size) (by simp [hs.len,hl0]) (fun id g' h=>by rw [sget_cons _ _ _ (sget_lt h)];exact h) hF
  (fun b o h=>hg.cell (hs.fix_lt h)) hnew (fun b hb _=>hg.old hb) (fun b h=>.inr (by omega)) ?_ (by rw [hg.size];omega) hg.os hg.tape hg.output
 intro id e' g' h1 h2
 by_cases hid:id=S0.length
 ·refine .inr (.inr ?_)
  have e1:e'=e:=by rw [hid,sget_top] at h1;injection h1 with h1;exact h1.symm
  have e2:g'=g:=by rw [hid,hl0,←hs.len,sget_top] at h2;injection h2 with h2;exact h2.symm
  rw [e1,e2]
  refine ⟨hgb,he,fun j e'' g'' hj h3 h4 hh heq=>?_⟩
  have:=(hold (by omega) h3 h4 hh).2.2
  omega
 ·by_cases hh:holds e'
  ·obtain ⟨a,b,c⟩:=hold hid h1 h2 hh
   exact .inr (.inl ⟨a,b,by omega⟩)
  ·exact .inl hh
theorem Sim.fixed (hs:Sim dp F G w S) {x:Obj} (hg:Grown w x w') (hF:∀ b o,F b o→F' b o) (hnew:∀ b o,F' b o→F b o∨(b=w.heap.size∧∃ v,w'.cell? ⟨b,o,none⟩=some v)) :
  Sim dp F' G w' S∧Ext F G w S F' G w' S:=by
 refine hs.step (fun b=>b=w.heap.size) hs.len (fun id g' h=>h) hF
  (fun b o h=>hg.cell (hs.fix_lt h)) hnew (fun b hb _=>hg.old hb) (fun b h=>.inr (by omega)) ?_ (by rw [hg.size];omega) hg.os hg.tape hg.output
 intro id e' g' h1 h2
 by_cases hh:holds e'
 ·have:=hs.lt h1 h2 hh
  exact .inr (.inl ⟨h1,h2,by omega⟩)
 ·exact .inl hh
structure Wrote (w:World) (b:Nat) (x:Obj) (w':World):Prop where
 at_:w'.heap[b]? = some x
 other:∀ k,k≠b→w'.heap[k]? = w.heap[k]?
 size:w'.heap.size=w.heap.size
 os:w'.os=w.os
 tape:w'.tape=w.tape
 output:w'.output=w.output
theorem Sim.write (hs:Sim dp F G w S) {id:Nat} {e e':Ent} {g:Gh} {x:Obj} (he:sget S id=some e) (hg:sget G id=some g) (hh:holds e) (hw:Wrote w g.blk x w')
  (hcell:∀ o,F g.blk o→w'.cell? ⟨g.blk,o,none⟩=w.cell? ⟨g.blk,o,none⟩)
  (hF:∀ b o,F b o→F' b o) (hnew:∀ b o,F' b o→F b o∨(b=g.blk∧∃ v,w'.cell? ⟨b,o,none⟩=some v))
  (he':EntOk dp F' G w' g e'):Sim dp F' G w' (sset S id e')∧Ext F G w S F' G w' (sset S id e'):=by
 refine hs.step (fun b=>b=g.blk) (by rw [sset_length];exact hs.len) (fun _ _ h=>h) hF (fun b o h=>?_) hnew (fun b _ hb=>hw.other b hb)
  (fun b hb=>.inl ⟨id,e,g,he,hh,hg,hb.symm⟩) ?_ (by rw [hw.size];exact Nat.le_refl _) hw.os hw.tape hw.output
 ·by_cases hb:b=g.blk
  ·subst hb;exact hcell o h
  ·exact World.cell?_of_block (a:=⟨b,o,none⟩) (hw.other b hb)
 ·intro j e'' g'' h1 h2
  rw [sget_sset] at h1
  split at h1
  ·rename_i hj
   obtain ⟨rfl,hj⟩:=hj
   injection h1 with h1;subst h1
   rw [hg] at h2;injection h2 with h2;subst h2
   refine .inr (.inr ⟨rfl,he',fun i e3 g3 hij h3 h4 hh3 heq=>?_⟩)
   rw [sget_sset,if_neg (fun h=>hij h.1)] at h3
   exact hs.sep i j e3 e g3 g hij h3 he hh3 hh h4 hg heq
  ·rename_i hj
   by_cases hh3:holds e''
   ·refine .inr (.inl ⟨h1,h2,fun heq=>?_⟩)
    by_cases hji:j=id
    ·exact hj ⟨hji,hji ▸ sget_lt h1⟩
    ·exact hs.sep j id e'' e g'' g hji h1 he hh3 hh h2 hg heq
   ·exact .inl hh3
def OpOk (P:Program) (dp:Nat→Option Fn) (F:Fix) (G:List Gh) (w:World) (S:Store) (a:Act) (o:Oper) (d:D) (S':Store):Prop:=
 ∀ (next:Act→World→Prop) (Q:Exit→Act→World→Prop),(∀ v w' F' G',Sim dp F' G' w' S'→Ext F G w S F' G' w' S'→Rel dp F' G' w' v d→next (a.put o.dst v) w')→o.wp P a w next Q
theorem Pur.ok (hs:Sim dp F G w S) (h:Pur P dp F G w a o d):OpOk P dp F G w S a o d S:=by
 intro next Q hn
 obtain ⟨v,h1,h2⟩:=h
 simp only [Oper.wp,h1,Oper.upon]
 exact hn v w F G hs (Ext.refl _ _ _ _) h2
theorem opOk_value {v:Value} (h1:(execOp a.eval o).run P w = .ok (.value v) w') (h2:Sim dp F' G' w' S'∧Ext F G w S F' G' w' S') (h3:Rel dp F' G' w' v d):OpOk P dp F G w S a o d S':=by
 intro next Q hn
 simp only [Oper.wp,h1,Oper.upon]
 exact hn v w' F' G' h2.1 h2.2 h3
theorem opOk_skip (h1:(execOp a.eval o).run P w = .ok .skip w') (h2:Sim dp F' G' w' S'∧Ext F G w S F' G' w' S'):OpOk P dp F G w S a o (.tup []) S':=by
 intro next Q hn
 simp only [Oper.wp,h1,Oper.upon]
 exact hn undef w' F' G' h2.1 h2.2 (.tup #[] [] rfl fun j v d h=>by simp at h)
end
end Go.Proofs.YtjniafcnjbbomaaGreatDoor.DE

namespace Go.Proofs.YtjniafcnjbbomaaGreatDoor.DE
open Go
section
variable {P:Program} {dp:Nat→Option Fn} {F F':Fix} {G G':List Gh} {w w':World} {S S':Store} {a:Act} {fr:List D} {o:Oper} {d:D}
def CellsOk (dp:Nat→Option Fn) (F:Fix) (G:List Gh) (w:World) (vs:Array Value) (z:List D):Prop:=
 vs.size=z.length∧∀ (j:Nat) (v:Value) (d:D),vs[j]? = some v→z[j]? = some d→Rel dp F G w v d
theorem fset_getElem? : ∀ (l:List D) (n j:Nat) (x:D),(fset l n x)[j]? = if j=n∧n<l.length then some x else l[j]?
 | [],n,j,x=>by simp [fset]
 | d::l,0,0,x=>by simp [fset]
 | d::l,0,j+1,x=>by simp [fset]
 | d::l,n+1,0,x=>by simp [fset]
 | d::l,n+1,j+1,x=>by simp only [fset,List.getElem?_cons_succ,fset_getElem? l n j x];simp
theorem CellsOk.set {vs:Array Value} {z:List D} (h:CellsOk dp F G w vs z) (n:Nat) {v:Value} {d:D} (hv:Rel dp F G w v d):CellsOk dp F G w (vs.setIfInBounds n v) (fset z n d):=by
 refine ⟨by simp [fset_length,h.1],fun j u e hu he=>?_⟩
 rw [fset_getElem?] at he
 by_cases hj:j=n
 ·subst hj
  by_cases hlt:j<z.length
  ·rw [if_pos ⟨rfl,hlt⟩] at he
   injection he with he;subst he
   rw [Array.getElem?_setIfInBounds_self_of_lt (by rw [h.1];exact hlt)] at hu
   injection hu with hu;subst hu
   exact hv
  ·rw [if_neg (fun h=>hlt h.2)] at he
   have:=(List.getElem?_eq_some_iff.1 he).1
   omega
 ·rw [if_neg (fun h=>hj h.1)] at he
  rw [Array.getElem?_setIfInBounds_ne (Ne.symm hj)] at hu
  exact h.2 j u e hu he
theorem splice_length:∀ (ds z:List D) (o:Nat),(splice z o ds).length=z.length
 | [],_,_=>rfl
 | d::ds,z,o=>by simp only [splice];rw [splice_length ds,fset_length]
theorem CellsOk.splice {off:Nat}:∀ {l:List Value} {ds:List D} {n:Nat} {vs:Array Value} {z:List D},l.length=ds.length→CellsOk dp F G w vs z →
  (∀ (j:Nat) (v:Value) (d:D),l[j]? = some v→ds[j]? = some d→Rel dp F G w v d) →
  CellsOk dp F G w ((l.zipIdx n).foldl (fun cs (x:Value × Nat)=>cs.setIfInBounds (off+x.2) x.1) vs) (splice z (off+n) ds)
 | [],[],_,_,_,_,h,_=>h
 | [],_::_,_,_,_,hl,_,_=>by simp at hl
 | _::_,[],_,_,_,hl,_,_=>by simp at hl
 | v::l,d::ds,n,vs,z,hl,h,hr=>by
  simp only [List.zipIdx_cons,List.foldl_cons,DE.splice]
  rw [Nat.add_assoc]
  exact CellsOk.splice (l:=l) (ds:=ds) (n:=n+1) (by simpa using hl) (h.set _ (hr 0 v d rfl rfl)) fun j u e hu he=>hr (j+1) u e (by simpa using hu) (by simpa using he)
theorem fold_arr {off:Nat} (xs vs:Array Value):(xs.zipIdx.foldl (fun cs (c,j)=>cs.setIfInBounds (off+j) c) vs)=((xs.toList.zipIdx 0).foldl (fun cs (x:Value × Nat)=>cs.setIfInBounds (off+x.2) x.1) vs):=by
 rw [←Array.foldl_toList,Array.toList_zipIdx]
theorem size_fold {off:Nat}:∀ (l:List (Value × Nat)) (vs:Array Value),(l.foldl (fun cs (x:Value × Nat)=>cs.setIfInBounds (off+x.2) x.1) vs).size=vs.size
 | [],_=>rfl
 | x::l,vs=>by simp only [List.foldl_cons];rw [size_fold l];simp
theorem mT_k {t:TypeId} {k:Nat} {g:Bool} (h:mT P t k g=true):(if g then k else 1)=k:=by
 cases g
 ·have:=(run_isAgg_of h (w:=default)).2 rfl
  simp [this]
 ·simp
theorem mT_size {t:TypeId} {k:Nat} {g:Bool} (h:mT P t k g=true):∃ i,P.info? t=some i∧i.size=k:=by
 have:=mT_sz h
 unfold mSz at this
 split at this
 ·rename_i i hi
  exact ⟨i,hi,by simpa using this⟩
 ·cases this
theorem fill_parts {place:Nat→Option (Nat × Nat)} {places:List (Nat × TypeId)} (hf:Fr dp F G w a fr)
  (hp:∀ i off t k g,places[i]? = some (off,t)→mT P t k g=true→place i=some (off,k)) :
  ∀ {parts:List (Nat × Operand)} {ps:List (Nat × Nat × Bool × A)} {cells:Array Value} {z cs:List D},mParts P dp places parts ps=true→bldD fr z ps=some cs→CellsOk dp F G w cells z →
  ∃ cells',Instr.fill place cells (parts.map fun (i,x)=>(i,a.eval x))=some cells'∧CellsOk dp F G w cells' cs
 | [],[],cells,z,cs,_,hb,h=>by
  simp only [bldD] at hb
  injection hb with hb;subst hb
  exact ⟨cells,rfl,h⟩
 | [],_::_,_,_,_,hm,_,_=>by simp [mParts] at hm
 | _::_,[],_,_,_,hm,_,_=>by simp [mParts] at hm
 | (i,x)::parts,(off,k,g,y)::ps,cells,z,cs,hm,hb,h=>by
  simp only [mParts,Bool.and_eq_true] at hm
  obtain ⟨⟨h1,h2⟩,h3⟩:=hm
  split at h1
  ·rename_i off' t ho
   simp only [Bool.and_eq_true,beq_iff_eq] at h1
   obtain ⟨rfl,hT⟩:=h1
   simp only [bldD] at hb
   split at hb
   ·rename_i ds hds
    split at hb
    ·rename_i hle
     obtain ⟨l1,l2,l3⟩:=cellsK_rel (hf.eval h2) hds
     rw [mT_k hT] at l1
     have hst:=CellsOk.splice (dp:=dp) (F:=F) (G:=G) (w:=w) (off:=off') (n:=0) (l:=(a.eval x).cells.toList) (ds:=ds) (by simpa using l2) h
      (fun j v d hv hd=>(l3 j v d (by simpa using hv) hd).1)
     rw [Nat.add_zero] at hst
     obtain ⟨cells',hc,hok⟩:=fill_parts hf hp h3 hb hst
     refine ⟨cells',?_,hok⟩
     have hsz:¬((a.eval x).cells.size≠k∨off'+(a.eval x).cells.size > cells.size):=by
      rw [l2,l1,h.1];omega
     simp only [List.map_cons,Instr.fill,hp i off' t k g ho hT]
     rw [if_neg (by simpa using hsz),fold_arr]
     exact hc
    ·cases hb
   ·cases hb
  ·cases h1
theorem mZ_zero {t:TypeId} {z:List D} (h:mZ P t z=true):∃ i v,P.info? t=some i∧i.zero=some v∧CellsOk dp F G w v.cells z∧∀ u∈v.cells.toList,u.oneCell'=true:=by
 unfold mZ at h
 split at h
 ·rename_i i hi
  split at h
  ·rename_i v hv
   simp only [Bool.and_eq_true,List.all_eq_true] at h
   refine ⟨i,v,hi,hv,⟨?_,fun j u e hu he=>mV1_rel (mVL_get h.1 (by simpa using hu) he)⟩,h.2⟩
   have:=mVL_length h.1
   simpa using this
  ·cases h
 ·cases h
theorem pur_bld {z:List D} {ps:List (Nat × Nat × Bool × A)} {cs:List D} (hm:mR P dp o.op (.bld z ps)=true) (hf:Fr dp F G w a fr) (he:bldD fr z ps=some cs):Pur P dp F G w a o (.agg cs):=by
 simp only [mR] at hm
 split at hm
 ·rename_i t parts ho
  simp only [Bool.and_eq_true] at hm
  obtain ⟨hz,hm⟩:=hm
  obtain ⟨i,v,hi,hv,hok,_⟩:=mZ_zero (P:=P) (dp:=dp) (F:=F) (G:=G) (w:=w) hz
  have fin:∀ cells',P.built t (parts.map fun (i,x)=>(i,a.eval x)).toList=some cells'→CellsOk dp F G w cells' cs→Pur P dp F G w a o (.agg cs):=by
   intro cells' hb hc
   refine ⟨.agg cells',?_,.agg _ _ hc.1 hc.2⟩
   simp only [execOp,ho,Sem.run_bind,run_build w t _ cells' hb,Result.andThen,Sem.run_pure]
  split at hm
  ·rename_i fs hu
   simp only [Bool.and_eq_true,List.all_eq_true] at hm
   obtain ⟨hall,hm⟩:=hm
   have hplaces:fs.toList.mapM (fun f=>(P.info? f.type).map fun i=>(f.offset,i.size))=some (fs.toList.map fun f=>(f.offset,((P.info? f.type).map (·.size)).getD 0)):=by
    generalize fs.toList=l at hall
    clear hm
    induction l with
    | nil=>rfl
    | cons f l ih=>
     have h1:=hall f (by simp)
     obtain ⟨j,hj⟩:=Option.isSome_iff_exists.1 h1
     simp only [List.mapM_cons,hj,ih fun x hx=>hall x (by simp [hx])]
     simp [hj]
   obtain ⟨cells',h1,h2⟩:=fill_parts (P:=P) (place:=fun i=>(fs.toList.map fun f=>(f.offset,((P.info? f.type).map (·.size)).getD 0)).toArray[i]?) hf (fun i off t k g h1 h2=>by
    obtain ⟨j,hj,hk⟩:=mT_size h2
    simp only [List.getElem?_toArray]
    rw [List.getElem?_map] at h1 ⊢
    cases hfi:fs.toList[i]? with
    | none=>simp [hfi] at h1
    | some f=>
     simp only [hfi,Option.map_some,Option.some.injEq,Prod.mk.injEq] at h1
     obtain ⟨e1,e2⟩:=h1
     subst e1 e2
     simp [hj,hk]) hm he hok
   refine fin cells' ?_ h2
   simp only [Program.built,hi,hu,hv,hplaces]
   simpa using h1
  ·rename_i n e hu
   split at hm
   ·rename_i ie hie
    obtain ⟨cells',h1,h2⟩:=fill_parts (P:=P) (place:=fun i=>some (i * ie.size,ie.size)) hf (fun i off t k g h1 h2=>by
     obtain ⟨j,hj,hk⟩:=mT_size h2
     rw [List.getElem?_map] at h1
     cases hr:(List.range n)[i]? with
     | none=>simp [hr] at h1
     | some q=>
      obtain ⟨hlt,hq⟩:=List.getElem?_eq_some_iff.1 hr
      simp at hq
      simp only [hr,Option.map_some,Option.some.injEq,Prod.mk.injEq] at h1
      obtain ⟨e1,e2⟩:=h1
      subst e2 e1 hq
      rw [hie] at hj
      injection hj with hj
      rw [hj,hk]) hm he hok
    refine fin cells' ?_ h2
    simp only [Program.built,hi,hu,hv,hie]
    simpa using h1
   ·cases hm
  ·cases hm
 ·cases hm
theorem cell_new {x:Array Value} {T:TypeId} {f:Nat × Nat} (hg:Grown w (.cells x T f) w') (o:Nat):w'.cell? ⟨w.heap.size,o,none⟩=x[o]?:=by
 simp [World.cell?,hg.new]
theorem CellsOk.ext {vs:Array Value} {z:List D} (h:CellsOk dp F G w vs z) (hF:∀ b o,F b o→F' b o) (hG:∀ id g,sget G id=some g→sget G' id=some g)
  (hw:∀ b o,F b o→w'.cell? ⟨b,o,none⟩=w.cell? ⟨b,o,none⟩):CellsOk dp F' G' w' vs z:=⟨h.1,fun j v d hv hd=>(h.2 j v d hv hd).mono hF hG hw⟩
def CellsLe (dp:Nat→Option Fn) (F:Fix) (G:List Gh) (w:World) (vs:Array Value) (z:List D):Prop:=
 z.length≤vs.size∧∀ (j:Nat) (v:Value) (d:D),vs[j]? = some v→z[j]? = some d→Rel dp F G w v d
theorem CellsOk.le {vs:Array Value} {z:List D} (h:CellsOk dp F G w vs z):CellsLe dp F G w vs z:=⟨Nat.le_of_eq h.1.symm,h.2⟩
theorem CellsLe.ext {vs:Array Value} {z:List D} (h:CellsLe dp F G w vs z) (hF:∀ b o,F b o→F' b o) (hG:∀ id g,sget G id=some g→sget G' id=some g)
  (hw:∀ b o,F b o→w'.cell? ⟨b,o,none⟩=w.cell? ⟨b,o,none⟩):CellsLe dp F' G' w' vs z:=⟨h.1,fun j v d hv hd=>(h.2 j v d hv hd).mono hF hG hw⟩
theorem Sim.pushBoxH (hi:Nat) (hs:Sim dp F G w S) {vs:Array Value} {T:TypeId} {z:List D} (hg:Grown w (.cells vs T (0,0)) w') (h:CellsLe dp F G w vs z) (h1:∀ u∈vs.toList,u.oneCell'=true)
  {S0:Store} (hl0:S0.length=S.length) (h0:∀ id e,sget S0 id=some e→sget S id=some e∨¬holds e) (hhi:hi≤vs.size) :
  Sim dp F (⟨w.heap.size,0,hi⟩::G) w' (.box z::S0)∧Ext F G w S F (⟨w.heap.size,0,hi⟩::G) w' (.box z::S0):=by
 refine hs.push hg hl0 h0 ⟨w.heap.size,0,hi⟩ rfl (.box z) (fun _ _ h=>h) (fun _ _ h=>.inl h) ⟨vs,T,hg.new,⟨h.1,hhi⟩,fun o ho=>?_,h1,?_⟩
 ·have:=hs.fix_lt ho
  simp at this
 ·exact (h.ext (fun _ _ h=>h) (fun id g h=>by rw [sget_cons _ _ _ (sget_lt h)];exact h) fun b o hF=>hg.cell (hs.fix_lt hF)).2
theorem Sim.pushBox (hs:Sim dp F G w S) {vs:Array Value} {T:TypeId} {z:List D} (hg:Grown w (.cells vs T (0,0)) w') (h:CellsLe dp F G w vs z) (h1:∀ u∈vs.toList,u.oneCell'=true)
  {S0:Store} (hl0:S0.length=S.length) (h0:∀ id e,sget S0 id=some e→sget S id=some e∨¬holds e) :
  Sim dp F (⟨w.heap.size,0,0⟩::G) w' (.box z::S0)∧Ext F G w S F (⟨w.heap.size,0,0⟩::G) w' (.box z::S0):=by
 exact hs.pushBoxH 0 hg h h1 hl0 h0 (Nat.zero_le _)
theorem top_bx {S0:Store} (hs:Sim dp F G w S) (hl0:S0.length=S.length) {g:Gh} {w1:World} {F1:Fix} (o:Nat):Rel dp F1 (g::G) w1 (.pointer (some ⟨g.blk,o,none⟩)) (.bx S0.length o):=
 .bx _ _ _ (by rw [hl0,←hs.len,sget_top])
theorem ok_alloc {z:List D} (hm:mR P dp o.op (.alloc z)=true) (hs:Sim dp F G w S):OpOk P dp F G w S a o (.bx S.length 0) (.box z::S):=by
 simp only [mR] at hm
 split at hm
 ·rename_i t ho
  obtain ⟨i,v,hi,hv,hok,h1⟩:=mZ_zero (P:=P) (dp:=dp) (F:=F) (G:=G) (w:=w) hm
  refine opOk_value (v:=.pointer (some ⟨w.heap.size,0,none⟩)) (w':=w.alloc (.cells v.cells t)) ?_ (hs.pushBox (grown_alloc _ _) hok.le h1 rfl fun _ _ h=>.inl h) (top_bx hs rfl 0)
  simp only [execOp,ho,Instr.alloc,zeroValue,typeInfo,hi,hv,newVar,newRow,Sem.run_bind,run_program,Sem.run_pure,Result.andThen,run_newObj_alloc]
 ·cases hm
theorem cellsK_ok {k:Nat} {g:Bool} {v:Value} {cs:List D} (h:Rel dp F G w v d) (hc:cellsK k g d=some cs):CellsOk dp F G w v.cells cs∧∀ u∈v.cells.toList,u.oneCell'=true:=by
 obtain ⟨l1,l2,l3⟩:=cellsK_rel h hc
 refine ⟨⟨l2,fun j v d hv hd=>(l3 j v d hv hd).1⟩,fun u hu=>?_⟩
 obtain ⟨j,hj,rfl⟩:=List.getElem_of_mem hu
 have hj':j<cs.length:=by rw [←l2];simpa using hj
 obtain ⟨a,b⟩:=l3 j v.cells.toList[j] cs[j] (by rw [←Array.getElem?_toList];exact List.getElem?_eq_getElem hj) (List.getElem?_eq_getElem hj')
 exact (rel_oneCell a b).1
theorem ok_box {k:Nat} {g:Bool} {x:A} {cs:List D} (hm:mR P dp o.op (.box k g x)=true) (hs:Sim dp F G w S) (hf:Fr dp F G w a fr) (he:cellsK k g (av fr x)=some cs) :
  OpOk P dp F G w S a o (.bx S.length 0) (.box cs::S):=by
 simp only [mR] at hm
 split at hm
 ·rename_i t y ho
  simp only [Bool.and_eq_true] at hm
  obtain ⟨hok,h1⟩:=cellsK_ok (hf.eval hm.2) he
  refine opOk_value (v:=.pointer (some ⟨w.heap.size,0,none⟩)) (w':=w.alloc (.cells (a.eval y).cells t)) ?_ (hs.pushBox (grown_alloc _ _) hok.le h1 rfl fun _ _ h=>.inl h) (top_bx hs rfl 0)
  simp only [execOp,ho,Instr.box,newVar,newRow,Sem.run_bind,Sem.run_pure,Result.andThen,run_newObj_alloc]
 ·cases hm
theorem ok_mkmap (hm:mR P dp o.op .mkmap=true) (hs:Sim dp F G w S):OpOk P dp F G w S a o (.mp S.length) (.map []::S):=by
 simp only [mR] at hm
 split at hm
 ·rename_i t ho
  refine opOk_value (v:=.map (some w.heap.size)) (w':=w.alloc (.map #[] 0)) ?_ (hs.push (grown_alloc _ _) rfl (fun _ _ h=>.inl h) ⟨w.heap.size,0,0⟩ rfl (.map []) (fun _ _ h=>h) (fun _ _ h=>.inl h)
   ⟨#[],(grown_alloc w _).new,rfl,fun j e d h=>by simp at h⟩) (.mp _ ⟨w.heap.size,0,0⟩ (by rw [←hs.len,sget_top]))
  simp only [execOp,ho,Instr.makeMap,Option.map_none,Sem.run_bind,Sem.run_pure,Result.andThen,run_newObj_alloc]
 ·cases hm
end
end Go.Proofs.YtjniafcnjbbomaaGreatDoor.DE

namespace Go.Proofs.YtjniafcnjbbomaaGreatDoor.DE
open Go
section
variable {P:Program} {dp:Nat→Option Fn} {F F':Fix} {G G':List Gh} {w w':World} {S S':Store} {a:Act} {fr:List D} {o:Oper} {d:D}
theorem flatten_get {α:Type} {k:Nat} (hk:0<k):∀ {xs:List (List α)} (q:Nat),(∀ x∈xs,x.length=k)→xs.flatten[q]? = (xs[q / k]?).bind (·[q % k]?)
 | [],q,_=>by simp
 | x::xs,q,h=>by
  have hx:x.length=k:=h x (by simp)
  rw [List.flatten_cons]
  by_cases hq:q<k
  ·rw [List.getElem?_append_left (by omega),Nat.div_eq_of_lt hq,Nat.mod_eq_of_lt hq]
   rfl
  ·rw [List.getElem?_append_right (by omega),hx,flatten_get hk (q-k) fun y hy=>h y (by simp [hy])]
   have e1:q / k=(q-k) / k+1:=by
    have:=Nat.div_eq_sub_div hk (show k≤q by omega)
    exact this
   have e2:q % k=(q-k) % k:=Nat.mod_eq_sub_mod (by omega)
   rw [e1,e2]
   rfl
theorem flatten_len {α:Type} {k:Nat}:∀ {xs:List (List α)},(∀ x∈xs,x.length=k)→xs.flatten.length=xs.length * k
 | [],_=>by simp
 | x::xs,h=>by
  rw [List.flatten_cons,List.length_append,h x (by simp),flatten_len fun y hy=>h y (by simp [hy]),List.length_cons,Nat.add_mul]
  omega
def RowOk (dp:Nat→Option Fn) (F:Fix) (G:List Gh) (w:World) (k:Nat) (vs:Array Value) (xs:List (List D)):Prop:=
 (∀ x∈xs,x.length=k)∧∀ (j:Nat) (x:List D) (m:Nat) (d:D),xs[j]? = some x→x[m]? = some d→∃ v,vs[j * k+m]? = some v∧v.oneCell'=true∧Rel dp F G w v d
theorem RowOk.mono {k:Nat} {vs:Array Value} {xs:List (List D)} (h:RowOk dp F G w k vs xs) (hF:∀ b o,F b o→F' b o) (hG:∀ id g,sget G id=some g→sget G' id=some g)
  (hw:∀ b o,F b o→w'.cell? ⟨b,o,none⟩=w.cell? ⟨b,o,none⟩):RowOk dp F' G' w' k vs xs:=
 ⟨h.1,fun j x m d hx hd=>by
  obtain ⟨v,h1,h2,h3⟩:=h.2 j x m d hx hd
  exact ⟨v,h1,h2,h3.mono hF hG hw⟩⟩
theorem lt_mul {j n k m:Nat} (hj:j<n) (hm:m<k):j * k+m<n * k:=by
 have:(j+1) * k≤n * k:=Nat.mul_le_mul_right k hj
 rw [Nat.add_mul] at this
 omega
theorem RowOk.rel {k:Nat} {vs:Array Value} {xs:List (List D)} {b cap:Nat} {T:TypeId} (h:RowOk dp F G w k vs xs) (hb:w.heap[b]? = some (.cells vs T (0,0))) (hF:∀ o,o<xs.length * k→F b o)
  (hcap:xs.length≤cap) {ow:Own} (ho:OwnOk G b (0+xs.length * k) (0+cap * k) cap ow):Rel dp F G w (.slice (some ⟨b,0,none⟩) xs.length cap) (.sl k false xs ow):=by
 refine .sl k xs ow b 0 cap (fun j m=>vs.getD (j * k+m) undef) h.1 hcap (fun j x m d hx hd=>?_) (fun j x m d hx hd=>?_) ho
 ·obtain ⟨v,h1,h2,h3⟩:=h.2 j x m d hx hd
  have hj:=(List.getElem?_eq_some_iff.1 hx).1
  have hm:m<k:=by
   have:=(List.getElem?_eq_some_iff.1 hd).1
   rw [h.1 x (List.mem_of_getElem? hx)] at this
   exact this
  have hv:vs.getD (j * k+m) undef=v:=by simp [h1]
  rw [hv,Nat.zero_add]
  exact ⟨hF _ (lt_mul hj hm),by rw [cell_box hb,h1],h2⟩
 ·obtain ⟨v,h1,h2,h3⟩:=h.2 j x m d hx hd
  have hv:vs.getD (j * k+m) undef=v:=by simp [h1]
  rw [hv]
  exact h3
def addRow (F:Fix) (b n:Nat):Fix:=fun b' o=>F b' o∨(b'=b∧o<n)
theorem Sim.pushRow (hs:Sim dp F G w S) {k cap:Nat} {vs:Array Value} {xs:List (List D)} {T:TypeId} (hg:Grown w (.cells vs T (0,0)) w') (h:RowOk dp F G w k vs xs) (hsz:vs.size=cap * k) (hcap:xs.length≤cap)
  {S0:Store} (hl0:S0.length=S.length) (h0:∀ id e,sget S0 id=some e→sget S id=some e∨¬holds e) :
  (Sim dp (addRow F w.heap.size (xs.length * k)) (⟨w.heap.size,xs.length * k,cap * k⟩::G) w' (.tok true::S0) ∧
   Ext F G w S (addRow F w.heap.size (xs.length * k)) (⟨w.heap.size,xs.length * k,cap * k⟩::G) w' (.tok true::S0)) ∧
  Rel dp (addRow F w.heap.size (xs.length * k)) (⟨w.heap.size,xs.length * k,cap * k⟩::G) w' (.slice (some ⟨w.heap.size,0,none⟩) xs.length cap) (.sl k false xs (.tok S0.length)):=by
 have hle:xs.length * k≤cap * k:=Nat.mul_le_mul_right k hcap
 refine ⟨hs.push hg hl0 h0 ⟨w.heap.size,xs.length * k,cap * k⟩ rfl (.tok true) (fun _ _ h=>.inl h) (fun b o h=>?_) ⟨vs,T,hg.new,?_,fun o ho hF=>?_⟩,?_⟩
 ·rcases h with h | ⟨rfl,h⟩
  ·exact .inl h
  ·exact .inr ⟨rfl,vs[o]'(by omega),by rw [cell_new hg];exact Array.getElem?_eq_getElem _⟩
 ·show cap * k≤vs.size
  omega
 ·rcases hF with hF | ⟨_,hF⟩
  ·have:=hs.fix_lt hF
   simp at this
  ·simp only at ho
   omega
 ·refine RowOk.rel (h.mono (fun _ _ h=>.inl h) (fun id g h=>by rw [sget_cons _ _ _ (sget_lt h)];exact h) fun b o hF=>hg.cell (hs.fix_lt hF)) hg.new (fun o ho=>.inr ⟨rfl,ho⟩) hcap ?_
  simp only [OwnOk,Nat.zero_add]
  rw [hl0,←hs.len,sget_top]
theorem Sim.fixRow (hs:Sim dp F G w S) {k cap:Nat} {vs:Array Value} {xs:List (List D)} {T:TypeId} (hg:Grown w (.cells vs T (0,0)) w') (h:RowOk dp F G w k vs xs) (hsz:vs.size=cap * k) (hcap:xs.length≤cap)
  {ow:Own} (how:ow = .ro∨(ow = .cap0∧cap=0)) :
  (Sim dp (addRow F w.heap.size (xs.length * k)) G w' S∧Ext F G w S (addRow F w.heap.size (xs.length * k)) G w' S) ∧
  Rel dp (addRow F w.heap.size (xs.length * k)) G w' (.slice (some ⟨w.heap.size,0,none⟩) xs.length cap) (.sl k false xs ow):=by
 have hle:xs.length * k≤cap * k:=Nat.mul_le_mul_right k hcap
 refine ⟨hs.fixed hg (fun _ _ h=>.inl h) (fun b o h=>?_),?_⟩
 ·rcases h with h | ⟨rfl,h⟩
  ·exact .inl h
  ·exact .inr ⟨rfl,vs[o]'(by omega),by rw [cell_new hg];exact Array.getElem?_eq_getElem _⟩
 ·refine RowOk.rel (h.mono (fun _ _ h=>.inl h) (fun id g h=>h) fun b o hF=>hg.cell (hs.fix_lt hF)) hg.new (fun o ho=>.inr ⟨rfl,ho⟩) hcap ?_
  rcases how with rfl | ⟨rfl,h⟩
  ·trivial
  ·exact h
theorem fold_get {off:Nat}:∀ (l:List Value) (n:Nat) (vs:Array Value) (p:Nat),off+n+l.length≤vs.size →
  ((l.zipIdx n).foldl (fun cs (x:Value × Nat)=>cs.setIfInBounds (off+x.2) x.1) vs)[p]? = if off+n≤p∧p<off+n+l.length then l[p-(off+n)]? else vs[p]?
 | [],n,vs,p,_=>by
  rw [if_neg (by simp only [List.length_nil];omega)];rfl
 | v::l,n,vs,p,h=>by
  simp only [List.length_cons] at h
  simp only [List.zipIdx_cons,List.foldl_cons]
  rw [fold_get l (n+1) _ p (by simp;omega)]
  by_cases h1:p=off+n
  ·subst h1
   rw [if_neg (by omega),if_pos (by simp)]
   simp [show off+n<vs.size by omega]
  ·by_cases h2:off+n≤p∧p<off+n+(v::l).length
   ·simp only [List.length_cons] at h2
    rw [if_pos (by omega),if_pos (by simp;omega)]
    rw [show p-(off+n)=(p-(off+(n+1)))+1 by omega]
    rfl
   ·simp only [List.length_cons] at h2
    rw [if_neg (by omega),if_neg (by simp;omega),Array.getElem?_setIfInBounds_ne (Ne.symm h1)]
theorem fill_elems {k:Nat} {g:Bool} {e:TypeId} (hf:Fr dp F G w a fr) (hT:mT P e k g=true) :
  ∀ {parts:List (Nat × Operand)} {ys:List A} {n:Nat} {cells:Array Value} {l:List (List D)},mElems dp k g n parts ys=true→cellsAll fr k g ys=some l→(n+ys.length) * k≤cells.size →
  ∃ cells',Instr.fill (fun i=>some (i * k,k)) cells (parts.map fun (i,x)=>(i,a.eval x))=some cells'∧cells'.size=cells.size∧l.length=ys.length∧(∀ p,p<n * k→cells'[p]? = cells[p]?) ∧
   (∀ x∈l,x.length=k)∧∀ (j:Nat) (x:List D) (m:Nat) (d:D),l[j]? = some x→x[m]? = some d→∃ v,cells'[(n+j) * k+m]? = some v∧v.oneCell'=true∧Rel dp F G w v d
 | [],[],n,cells,l,_,hc,_=>by
  simp only [cellsAll] at hc
  injection hc with hc;subst hc
  exact ⟨cells,rfl,rfl,rfl,fun _ _=>rfl,by simp,fun j x m d h=>by simp at h⟩
 | [],_::_,_,_,_,hm,_,_=>by simp [mElems] at hm
 | _::_,[],_,_,_,hm,_,_=>by simp [mElems] at hm
 | (i,x)::parts,y::ys,n,cells,l,hm,hc,hsz=>by
  simp only [mElems,Bool.and_eq_true,beq_iff_eq] at hm
  obtain ⟨⟨rfl,h2⟩,h3⟩:=hm
  simp only [cellsAll] at hc
  split at hc
  ·rename_i ds r hds hr
   injection hc with hc;subst hc
   obtain ⟨l1,l2,l3⟩:=cellsK_rel (hf.eval h2) hds
   rw [mT_k hT] at l1
   simp only [List.length_cons] at hsz
   have hsz1:(i+1) * k≤cells.size:=Nat.le_trans (Nat.mul_le_mul_right k (by omega)) hsz
   rw [Nat.add_mul] at hsz1
   have hfold:=size_fold (off:=i * k) ((a.eval x).cells.toList.zipIdx 0) cells
   obtain ⟨cells',c1,c2,c3,c4,c5,c6⟩:=fill_elems hf hT h3 hr (cells:=((a.eval x).cells.toList.zipIdx 0).foldl (fun cs (x:Value × Nat)=>cs.setIfInBounds (i * k+x.2) x.1) cells)
    (by rw [hfold];refine Nat.le_trans (Nat.mul_le_mul_right k ?_) hsz;omega)
   have hn:¬((a.eval x).cells.size≠k∨i * k+(a.eval x).cells.size > cells.size):=by rw [l2,l1];omega
   refine ⟨cells',?_,by rw [c2,hfold],by simp [c3],?_,?_,?_⟩
   ·simp only [List.map_cons,Instr.fill]
    rw [if_neg (by simpa using hn),fold_arr]
    exact c1
   ·intro p hp
    rw [c4 p (by rw [Nat.add_mul];omega),fold_get _ _ _ _ (by simp [l2,l1];omega),if_neg (by omega)]
   ·intro z hz
    simp only [List.mem_cons] at hz
    rcases hz with rfl | hz
    ·exact l1
    ·exact c5 z hz
   ·intro j z m d hz hd
    match j with
    | 0=>
     simp at hz;subst hz
     have hm:=(List.getElem?_eq_some_iff.1 hd).1
     have hm':m<(a.eval x).cells.size:=by omega
     refine ⟨(a.eval x).cells[m],?_,?_⟩
     ·rw [Nat.add_zero,c4 _ (by rw [Nat.add_mul];omega),fold_get _ _ _ _ (by simp [l2,l1];omega),if_pos (by simp;omega)]
      simp [hm']
     ·obtain ⟨a1,a2⟩:=l3 m _ d (Array.getElem?_eq_getElem hm') hd
      exact ⟨(rel_oneCell a1 a2).1,a1⟩
    | j+1=>
     obtain ⟨v,a1,a2⟩:=c6 j z m d (by simpa using hz) hd
     exact ⟨v,by rw [show i+(j+1)=i+1+j by omega];exact a1,a2⟩
  ·cases hc
theorem cellsAll_length {k:Nat} {g:Bool}:∀ {ys:List A} {l:List (List D)},cellsAll fr k g ys=some l→l.length=ys.length
 | [],l,h=>by simp only [cellsAll] at h;injection h with h;subst h;rfl
 | y::ys,l,h=>by
  simp only [cellsAll] at h
  split at h
  ·rename_i h1 h2
   injection h with h;subst h
   simp [cellsAll_length h2]
  ·cases h
def bslRes (k:Nat) (own:Bool) (l:List (List D)) (S:Store):D × Store:=
 if own then (if l.isEmpty then (.sl k false [] .cap0,S) else (.sl k false l (.tok S.length),.tok true::S)) else (.sl k false l .ro,S)
theorem ok_bsl {k:Nat} {g own:Bool} {ys:List A} {l:List (List D)} (hm:mR P dp o.op (.bsl k g own ys)=true) (hs:Sim dp F G w S) (hf:Fr dp F G w a fr) (he:cellsAll fr k g ys=some l) :
  OpOk P dp F G w S a o (bslRes k own l S).1 (bslRes k own l S).2:=by
 simp only [mR] at hm
 split at hm
 ·rename_i t len parts ho
  split at hm
  ·rename_i e hu
   simp only [Bool.and_eq_true,decide_eq_true_eq,beq_iff_eq] at hm
   obtain ⟨⟨⟨⟨⟨⟨hT,hk0⟩,hk1⟩,rfl⟩,hlen⟩,hz⟩,hel⟩:=hm
   obtain ⟨ie,hie,hsz⟩:=mT_size hT
   rw [hie] at hz
   dsimp only at hz
   split at hz
   ·rename_i z hzv
    simp only [beq_iff_eq] at hz
    have hl:=cellsAll_length he
    obtain ⟨cells',c1,c2,c3,c4,c5,c6⟩:=fill_elems (P:=P) (cells:=(Array.range (ys.length * ie.size)).map (z.cells[· % z.cells.size]!)) hf hT hel he (by simp [hsz])
    have hrow:RowOk dp F G w k cells' l:=⟨c5,fun j x m d hx hd=>by simpa using c6 j x m d hx hd⟩
    have hcs:cells'.size=l.length * k:=by rw [c2,hl];simp [hsz]
    have hrun:(execOp a.eval o).run P w = .ok (.value (.slice (some ⟨w.heap.size,0,none⟩) l.length l.length)) (w.alloc (.cells cells' e)):=by
     by_cases h0:ys.length=0
     ·have hy:ys=[]:=List.eq_nil_of_length_eq_zero h0
      subst hy
      have hp:parts.toList=[]:=by
       cases hp:parts.toList with
       | nil=>rfl
       | cons x l=>rw [hp] at hel;simp [mElems] at hel
      have hp':parts = #[]:=by simpa using hp
      subst hp'
      have hcells:cells' = #[]:=by
       rw [←Array.size_eq_zero_iff,hcs,hl];simp
      rw [hl]
      simp [execOp,ho,Instr.buildSlice,run_underlying hu,sizeOf,typeInfo,hie,Instr.fill,newRow,hcells,Array.range_zero']
     ·have hb:=run_buildSlice (P:=P) w t e ys.length (parts.map fun (i,x)=>(i,a.eval x)) cells' ie z hu hie hzv (by
       rw [hsz]
       have:ys.length * k≤1024 * 4096:=Nat.mul_le_mul hlen hk1
       omega) (by rw [hsz];exact Nat.mul_ne_zero h0 (by omega)) (by rw [hsz];rw [hsz] at c1;simpa using c1)
      rw [hl]
      simp only [execOp,ho,Sem.run_bind,hb,Result.andThen,Sem.run_pure]
    unfold bslRes
    cases own with
    | false=>
     obtain ⟨h1,h2⟩:=hs.fixRow (grown_alloc _ _) hrow hcs (Nat.le_refl _) (ow:=.ro) (.inl rfl)
     exact opOk_value hrun h1 h2
    | true=>
     simp only [if_true]
     split
     ·rename_i hemp
      have hl0:l=[]:=by simpa using hemp
      subst hl0
      obtain ⟨h1,h2⟩:=hs.fixRow (grown_alloc _ _) hrow hcs (Nat.le_refl _) (ow:=.cap0) (.inr ⟨rfl,rfl⟩)
      exact opOk_value hrun h1 h2
     ·obtain ⟨h1,h2⟩:=hs.pushRow (grown_alloc _ _) hrow hcs (Nat.le_refl _) rfl (fun _ _ h=>.inl h)
      exact opOk_value hrun h1 h2
   ·cases hz
  ·cases hm
 ·cases hm
end
end Go.Proofs.YtjniafcnjbbomaaGreatDoor.DE

namespace Go.Proofs.YtjniafcnjbbomaaGreatDoor.DE
open Go
section
variable {P:Program} {dp:Nat→Option Fn} {F F':Fix} {G G':List Gh} {w w':World} {S S':Store} {a:Act} {fr:List D} {o:Oper} {d:D}
theorem replicate_len {n k:Nat} {z:List D} (hz:z.length=k):∀ x∈List.replicate n z,x.length=k:=by
 intro x hx
 rw [(List.mem_replicate.1 hx).2]
 exact hz
theorem replicate_get {n j:Nat} {z x:List D} (h:(List.replicate n z)[j]? = some x):j<n∧x=z:=by
 have h1:=(List.getElem?_eq_some_iff.1 h).1
 have h2:=List.mem_replicate.1 (List.mem_of_getElem? h)
 exact ⟨by simpa using h1,h2.2⟩
theorem mod_row {j k m:Nat} (hm:m<k):(j * k+m) % k=m:=by
 rw [Nat.add_comm,Nat.mul_comm,Nat.add_mul_mod_self_left,Nat.mod_eq_of_lt hm]
theorem made_get {z:Array Value} {n q:Nat} (hq:q<n) (hz:0<z.size):∃ h:q % z.size<z.size,(madeCells z n)[q]? = some z[q % z.size]:=by
 refine ⟨Nat.mod_lt _ hz,?_⟩
 simp [madeCells,hq,Nat.mod_lt _ hz]
theorem made_row {z:Array Value} {zs:List D} {n k:Nat} (hok:CellsOk dp F G w z zs) (h1:∀ u∈z.toList,u.oneCell'=true) (hz:zs.length=k) (hk:0<k):RowOk dp F G w k (madeCells z (n * k)) (List.replicate n zs):=by
 refine ⟨replicate_len hz,fun j x m d hx hd=>?_⟩
 obtain ⟨hj,rfl⟩:=replicate_get hx
 have hm:m<k:=by
  have:=(List.getElem?_eq_some_iff.1 hd).1
  omega
 have hsz:z.size=k:=by rw [hok.1,hz]
 obtain ⟨h,hg⟩:=made_get (z:=z) (lt_mul hj hm) (by omega)
 have e:(j * k+m) % z.size=m:=by rw [hsz];exact mod_row hm
 have hlt:m<z.size:=by omega
 refine ⟨z[m],by rw [hg];simp [e],h1 _ (by simp),hok.2 m _ d (Array.getElem?_eq_getElem hlt) hd⟩
theorem row_cells {k:Nat} {vs:Array Value} {xs:List (List D)} (h:RowOk dp F G w k vs xs) (hk:0<k) (hsz:vs.size=xs.length * k):CellsOk dp F G w vs xs.flatten:=by
 refine ⟨by rw [flatten_len h.1,hsz],fun q v d hv hd=>?_⟩
 rw [flatten_get hk q h.1] at hd
 cases hx:xs[q / k]? with
 | none=>simp [hx] at hd
 | some x=>
  rw [hx] at hd
  obtain ⟨u,h1,h2,h3⟩:=h.2 (q / k) x (q % k) d hx (by simpa using hd)
  have:q / k * k+q % k=q:=by rw [Nat.mul_comm];exact Nat.div_add_mod q k
  rw [this,hv] at h1
  injection h1 with h1
  rw [h1];exact h3
def mkslRes (k:Nat) (arr:Bool) (z:List D) (m:Nat) (S:Store):D × Store:=
 if arr then (.ar k S.length 0 m,.box (List.replicate m z).flatten::S)
 else (if m=0 then (.sl k false [] .cap0,S) else (.sl k false (List.replicate m z) (.tok S.length),.tok true::S))
theorem ok_mksl {k:Nat} {arr:Bool} {z:List D} {y:A} {kk:IntKind} {m:Int} (hm:mR P dp o.op (.mksl k arr z y)=true) (hs:Sim dp F G w S) (hf:Fr dp F G w a fr)
  (he:av fr y = .i kk m) (h0:0≤m) (h1:m≤maxLenD):OpOk P dp F G w S a o (mkslRes k arr z m.toNat S).1 (mkslRes k arr z m.toNat S).2:=by
 simp only [mR] at hm
 split at hm
 ·rename_i t x c ho
  simp only [Bool.and_eq_true] at hm
  obtain ⟨⟨hm,hx⟩,hc⟩:=hm
  split at hm
  ·rename_i e hu
   simp only [Bool.and_eq_true,decide_eq_true_eq,beq_iff_eq] at hm
   obtain ⟨⟨⟨⟨hsz,hz⟩,hzl⟩,hk0⟩,hb⟩:=hm
   obtain ⟨i,v,hi,hv,hok,hone⟩:=mZ_zero (P:=P) (dp:=dp) (F:=F) (G:=G) (w:=w) hz
   rw [hi] at hb
   simp only [decide_eq_true_eq] at hb
   have r1:=hf.eval hx
   have r2:=hf.eval hc
   rw [he] at r1 r2
   generalize hv1:a.eval x=v1 at r1
   generalize hv2:a.eval c=v2 at r2
   cases r1;cases r2
   have hisz:i.size=k:=by
    unfold mSz at hsz
    rw [hi] at hsz
    simpa using hsz
   simp only [maxLenD] at h1
   have hbytes:(i.bytes:Int) * m≤281474976710656:=by
    have e1:(i.bytes:Int)≤65536:=by omega
    have e2:(i.bytes:Int) * m≤65536 * 1048576:=Int.mul_le_mul e1 h1 h0 (by omega)
    omega
   have hrun:(execOp a.eval o).run P w = .ok (.value (.slice (some ⟨w.heap.size,0,none⟩) m.toNat m.toNat)) (w.alloc (.cells (madeCells v.cells (m.toNat * k)) e)):=by
    have hr:=run_make (P:=P) w t e i v hu hi hv kk kk m m h0 (Int.le_refl _) hbytes (by omega)
    rw [hisz] at hr
    simp only [execOp,ho,hv1,hv2,Sem.run_bind,hr,Result.andThen,Sem.run_pure]
   have hrow:=made_row (n:=m.toNat) hok hone hzl hk0
   have hlen:(List.replicate m.toNat z).length=m.toNat:=by simp
   unfold mkslRes
   cases arr with
   | true=>
    simp only [if_true]
    have hcells:=row_cells hrow hk0 (by rw [size_madeCells,hlen])
    refine opOk_value hrun (hs.pushBoxH (m.toNat * k) (grown_alloc _ _) hcells.le (fun u hu=>?_) rfl (fun _ _ h=>.inl h) (by rw [size_madeCells];exact Nat.le_refl _)) (.ar k _ 0 _ _ ⟨w.heap.size,0,m.toNat * k⟩ (by rw [←hs.len,sget_top]) ⟨Nat.le_refl _,by simp⟩)
    obtain ⟨q,hq,rfl⟩:=List.getElem_of_mem hu
    have hq':q<m.toNat * k:=by simpa [size_madeCells] using hq
    have hvs:0<v.cells.size:=by rw [hok.1];omega
    obtain ⟨hh,hg⟩:=made_get (z:=v.cells) hq' hvs
    rw [Array.getElem_toList,Array.getElem?_eq_getElem (by simpa using hq)] at *
    injection hg with hg
    rw [hg]
    exact hone _ (by simp)
   | false=>
    simp only [Bool.false_eq_true,if_false]
    split
    ·rename_i hm0
     have:m.toNat=0:=hm0
     rw [this] at hrow hrun
     obtain ⟨a1,a2⟩:=hs.fixRow (cap:=0) (grown_alloc w _) hrow (by simp [size_madeCells]) (by simp) (ow:=.cap0) (.inr ⟨rfl,rfl⟩)
     exact opOk_value hrun a1 a2
    ·obtain ⟨a1,a2⟩:=hs.pushRow (cap:=m.toNat) (grown_alloc w _) hrow (by simp [size_madeCells]) (by simp) rfl (fun _ _ h=>.inl h)
     rw [hlen] at a1 a2
     exact opOk_value hrun a1 a2
  ·cases hm
 ·cases hm
theorem splice_get:∀ (ds z:List D) (o j:Nat),(splice z o ds)[j]? = if o≤j∧j<o+ds.length∧j<z.length then ds[j-o]? else z[j]?
 | [],z,o,j=>by
  rw [if_neg (by simp only [List.length_nil];omega)];rfl
 | d::ds,z,o,j=>by
  simp only [splice]
  rw [splice_get ds,fset_length]
  simp only [List.length_cons]
  by_cases h:j=o
  ·subst h
   rw [if_neg (by omega),fset_getElem?]
   by_cases hlt:j<z.length
   ·rw [if_pos ⟨rfl,hlt⟩,if_pos (by omega)];simp
   ·rw [if_neg (fun h=>hlt h.2),if_neg (by omega)]
  ·by_cases h2:o+1≤j∧j<o+1+ds.length∧j<z.length
   ·rw [if_pos h2,if_pos (by omega),show j-o=(j-(o+1))+1 by omega];rfl
   ·rw [if_neg h2,if_neg (by omega),fset_getElem?,if_neg (fun hh=>h hh.1)]
theorem put_get (cur:Array Value) (vs:List Value) (o j:Nat) (h:o+vs.length≤cur.size) :
  ((cur.toList.take o++vs++cur.toList.drop (o+vs.length)).toArray)[j]? = if o≤j∧j<o+vs.length then vs[j-o]? else cur[j]?:=by
 rw [List.getElem?_toArray,List.append_assoc]
 have hl:(cur.toList.take o).length=o:=by simp;omega
 by_cases h1:j<o
 ·rw [if_neg (by omega),List.getElem?_append_left (by omega),List.getElem?_take_of_lt h1];simp
 ·rw [List.getElem?_append_right (by omega),hl]
  by_cases h2:j<o+vs.length
  ·rw [if_pos (by omega),List.getElem?_append_left (by omega)]
  ·rw [if_neg (by omega),List.getElem?_append_right (by omega),List.getElem?_drop]
   rw [show o+vs.length+(j-o-vs.length)=j by omega];simp
theorem put_size (cur:Array Value) (vs:List Value) (o:Nat) (h:o+vs.length≤cur.size):((cur.toList.take o++vs++cur.toList.drop (o+vs.length)).toArray).size=cur.size:=by
 simp;omega
theorem put_one {cur:Array Value} {vs:List Value} {o:Nat} (h1:∀ u∈cur.toList,u.oneCell'=true) (h2:∀ u∈vs,u.oneCell'=true) :
  ∀ u∈((cur.toList.take o++vs++cur.toList.drop (o+vs.length)).toArray).toList,u.oneCell'=true:=by
 intro u hu
 simp only [List.append_assoc,List.mem_append] at hu
 rcases hu with hu | hu | hu
 ·exact h1 u (List.mem_of_mem_take hu)
 ·exact h2 u hu
 ·exact h1 u (List.mem_of_mem_drop hu)
theorem CellsLe.put {cur:Array Value} {z ds:List D} {vs:List Value} {o:Nat} (h:CellsLe dp F G w cur z) (h2:vs.length=ds.length)
  (h3:∀ (j:Nat) (v:Value) (d:D),vs[j]? = some v→ds[j]? = some d→Rel dp F G w v d) (hle:o+ds.length≤z.length) :
  CellsLe dp F G w ((cur.toList.take o++vs++cur.toList.drop (o+vs.length)).toArray) (DE.splice z o ds):=by
 have hc:o+vs.length≤cur.size:=by rw [h2];exact Nat.le_trans hle h.1
 refine ⟨by rw [put_size _ _ _ hc,splice_length];exact h.1,fun j v d hv hd=>?_⟩
 rw [put_get _ _ _ _ hc] at hv
 rw [splice_get] at hd
 by_cases hj:o≤j∧j<o+ds.length
 ·rw [if_pos (by omega)] at hv hd
  exact h3 _ _ _ hv hd
 ·rw [if_neg (by omega)] at hv
  rw [if_neg (by omega)] at hd
  exact h.2 j v d hv hd
theorem wrote_setRow {b:Nat} {cur cs:Array Value} {T:TypeId} (h:w.heap[b]? = some (.cells cur T (0,0))):Wrote w b (.cells cs T (0,0)) (w.setRow b cs):=
 ⟨setRow_heap w b cur cs T _ h,fun k hk=>setRow_other w b k cs (fun e=>hk (by omega)),size_setRow w b cs,rfl,rfl,rfl⟩
theorem ok_bsa {k:Nat} {g:Bool} {ys:List A} {l:List (List D)} (hm:mR P dp o.op (.bsa k g ys)=true) (hs:Sim dp F G w S) (hf:Fr dp F G w a fr) (he:cellsAll fr k g ys=some l) :
  OpOk P dp F G w S a o (.ar k S.length 0 l.length) (.box l.flatten::S):=by
 simp only [mR] at hm
 split at hm
 ·rename_i t len parts ho
  split at hm
  ·rename_i e hu
   simp only [Bool.and_eq_true,decide_eq_true_eq,beq_iff_eq] at hm
   obtain ⟨⟨⟨⟨⟨⟨hT,hk0⟩,hk1⟩,rfl⟩,hlen⟩,hz⟩,hel⟩:=hm
   obtain ⟨ie,hie,hsz⟩:=mT_size hT
   rw [hie] at hz
   dsimp only at hz
   split at hz
   ·rename_i z hzv
    simp only [beq_iff_eq] at hz
    have hl:=cellsAll_length he
    obtain ⟨cells',c1,c2,c3,c4,c5,c6⟩:=fill_elems (P:=P) (cells:=(Array.range (ys.length * ie.size)).map (z.cells[· % z.cells.size]!)) hf hT hel he (by simp [hsz])
    have hrow:RowOk dp F G w k cells' l:=⟨c5,fun j x m d hx hd=>by simpa using c6 j x m d hx hd⟩
    have hcs:cells'.size=l.length * k:=by rw [c2,hl];simp [hsz]
    have hrun:(execOp a.eval o).run P w = .ok (.value (.slice (some ⟨w.heap.size,0,none⟩) l.length l.length)) (w.alloc (.cells cells' e)):=by
     by_cases h0:ys.length=0
     ·have hy:ys=[]:=List.eq_nil_of_length_eq_zero h0
      subst hy
      have hp:parts.toList=[]:=by
       cases hp:parts.toList with
       | nil=>rfl
       | cons x l=>rw [hp] at hel;simp [mElems] at hel
      have hp':parts = #[]:=by simpa using hp
      subst hp'
      have hcells:cells' = #[]:=by
       rw [←Array.size_eq_zero_iff,hcs,hl];simp
      rw [hl]
      simp [execOp,ho,Instr.buildSlice,run_underlying hu,sizeOf,typeInfo,hie,Instr.fill,newRow,hcells,Array.range_zero']
     ·have hb:=run_buildSlice (P:=P) w t e ys.length (parts.map fun (i,x)=>(i,a.eval x)) cells' ie z hu hie hzv (by
       rw [hsz]
       have:ys.length * k≤1024 * 4096:=Nat.mul_le_mul hlen hk1
       omega) (by rw [hsz];exact Nat.mul_ne_zero h0 (by omega)) (by rw [hsz];rw [hsz] at c1;simpa using c1)
      rw [hl]
      simp only [execOp,ho,Sem.run_bind,hb,Result.andThen,Sem.run_pure]
    have hcells:=row_cells hrow hk0 hcs
    refine opOk_value hrun (hs.pushBoxH (l.length * k) (grown_alloc _ _) hcells.le (fun u hu=>?_) rfl (fun _ _ h=>.inl h) (by rw [hcs];exact Nat.le_refl _)) (.ar k _ 0 _ _ ⟨w.heap.size,0,l.length * k⟩ (by rw [←hs.len,sget_top]) ⟨Nat.le_refl _,by simp⟩)
    obtain ⟨q,hq,rfl⟩:=List.getElem_of_mem hu
    have hq':q<l.length * k:=by rw [←hcs];simpa using hq
    have hqk:q / k<l.length:=(Nat.div_lt_iff_lt_mul hk0).2 hq'
    have hqm:q % k<k:=Nat.mod_lt _ hk0
    have hx:=List.getElem?_eq_getElem hqk
    have hxl:=hrow.1 _ (List.mem_of_getElem? hx)
    obtain ⟨v,e1,e2,_⟩:=hrow.2 (q / k) _ (q % k) _ hx (List.getElem?_eq_getElem (by rw [hxl];exact hqm))
    rw [Nat.mul_comm (q / k),Nat.div_add_mod] at e1
    obtain ⟨h1,h2⟩:=Array.getElem?_eq_some_iff.1 e1
    simp only [Array.getElem_toList]
    rw [h2];exact e2
   ·cases hz
  ·cases hm
 ·cases hm
theorem Sim.writeBox (hs:Sim dp F G w S) {id o:Nat} {g:Gh} {cs ds:List D} {vs:List Value} (he:sget S id=some (.box cs)) (hg:sget G id=some g) (h2:vs.length=ds.length)
  (h3:∀ (j:Nat) (v:Value) (d:D),vs[j]? = some v→ds[j]? = some d→Rel dp F G w v d) (h1:∀ u∈vs,u.oneCell'=true) (hle:o+ds.length≤cs.length) :
  ∃ w',(storeCells ⟨g.blk,o,none⟩ vs).run P w = .ok () w'∧Sim dp F G w' (sset S id (.box (splice cs o ds)))∧Ext F G w S F G w' (sset S id (.box (splice cs o ds))):=by
 obtain ⟨cur,T,e1,⟨e2,e2h⟩,e3,e4,e5⟩:=hs.ent id _ g he hg
 have hst:=run_storeCells_at P g.blk o T vs 0 cur w e1 (by omega) h1
 simp only [Nat.add_zero] at hst
 refine ⟨_,hst,?_⟩
 have hok:=CellsLe.put (o:=o) ⟨e2,e5⟩ h2 h3 hle
 refine hs.write he hg trivial (wrote_setRow e1) (fun o h=>(e3 o h).elim) (fun _ _ h=>h) (fun _ _ h=>.inl h)
  ⟨_,T,setRow_heap w g.blk cur _ T _ e1,⟨hok.1,by rw [put_size _ _ _ (by omega)];exact e2h⟩,e3,put_one e4 h1,fun m v d hv hd=>?_⟩
 refine (hok.2 m v d hv hd).mono (fun _ _ h=>h) (fun _ _ h=>h) fun b o h=>?_
 refine World.cell?_of_block (a:=⟨b,o,none⟩) (setRow_other w g.blk b _ fun heq=>?_)
 exact e3 o (heq ▸ h)
theorem ok_st {k:Nat} {g:Bool} {x y:A} {id p:Nat} {cs ds:List D} (hm:mR P dp o.op (.st k g x y)=true) (hs:Sim dp F G w S) (hf:Fr dp F G w a fr)
  (h1:av fr x = .bx id p) (h2:sget S id=some (.box cs)) (h3:cellsK k g (av fr y)=some ds) (h4:p+k≤cs.length) :
  OpOk P dp F G w S a o (.tup []) (sset S id (.box (splice cs p ds))):=by
 simp only [mR] at hm
 split at hm
 ·rename_i t xo vo ho
  simp only [Bool.and_eq_true] at hm
  obtain ⟨⟨hT,hx⟩,hv⟩:=hm
  have r1:=hf.eval hx
  have r2:=hf.eval hv
  rw [h1] at r1
  generalize hv1:a.eval xo=v1 at r1
  generalize hv2:a.eval vo=v2 at r2
  cases r1 with
  | bx _ _ gh hg=>
   obtain ⟨hok,hone⟩:=cellsK_ok r2 h3
   obtain ⟨l1,l2,l3⟩:=cellsK_rel r2 h3
   rw [mT_k hT] at l1
   obtain ⟨w',hw,hsim⟩:=hs.writeBox (P:=P) (o:=p) (vs:=v2.cells.toList) h2 hg (by simpa using l2) (fun j v d hv hd=>hok.2 j v d (by simpa using hv) hd) hone (by omega)
   refine opOk_skip ?_ hsim
   simp only [execOp,ho,hv1,hv2,Instr.storeAt,Instr.sureAddr,storeVar,Sem.run_bind,Sem.run_pure,Result.andThen,run_sizeOf_of (mT_sz hT) w]
   rw [if_neg (by rw [l2,l1];simp)]
   simp only [hw]
 ·cases hm
theorem sset_same {α:Type}:∀ {l:List α} {id:Nat} {x:α},sget l id=some x→sset l id x=l
 | [],_,_,h=>by cases h
 | e::l,id,x,h=>by
  simp only [sget] at h
  simp only [sset]
  split
  ·rename_i hid
   rw [if_pos hid] at h
   injection h with h
   rw [h]
  ·rename_i hid
   rw [if_neg hid] at h
   rw [sset_same h]
theorem zero_row {z:Array Value} {zs:List D} {n k:Nat} (hok:CellsOk dp F G w z zs) (h1:∀ u∈z.toList,u.oneCell'=true) (hz:zs.length=k) (hk:0<k) :
  CellsOk dp F G w (Builtin.zeroCells z n) (List.replicate n zs).flatten∧∀ u∈(Builtin.zeroCells z n).toList,u.oneCell'=true:=by
 have hsz:z.size=k:=by rw [hok.1,hz]
 have e:Builtin.zeroCells z n=madeCells z (n * k):=by simp only [Builtin.zeroCells,madeCells,hsz]
 rw [e]
 refine ⟨row_cells (made_row hok h1 hz hk) hk (by simp [size_madeCells]),fun u hu=>?_⟩
 obtain ⟨q,hq,rfl⟩:=List.getElem_of_mem hu
 have hq':q<n * k:=by simpa [size_madeCells] using hq
 obtain ⟨hh,hg⟩:=made_get (z:=z) hq' (by omega)
 rw [Array.getElem_toList]
 rw [Array.getElem?_eq_getElem (by simpa using hq)] at hg
 injection hg with hg
 rw [hg]
 exact h1 _ (by simp)
theorem ok_clr {k:Nat} {z:List D} {x:A} {S':Store} (hm:mR P dp o.op (.clr k z x)=true) (hs:Sim dp F G w S) (hf:Fr dp F G w a fr)
  (he:(∃ id p n cs,av fr x = .ar k id p n∧z.length=k∧sget S id=some (.box cs)∧p+n * k≤cs.length∧S'=sset S id (.box (splice cs p (List.replicate n z).flatten))) ∨
   (∃ k' nl ow,av fr x = .sl k' nl [] ow∧S'=S)):OpOk P dp F G w S a o (.tup []) S':=by
 simp only [mR] at hm
 split at hm
 ·rename_i c ho
  simp only [Bool.and_eq_true] at hm
  obtain ⟨⟨hb,ht⟩,hargs⟩:=hm
  split at hb
  ·rename_i hcal
   split at ht
   ·rename_i t hts
    split at ht
    ·rename_i e hu
     simp only [Bool.and_eq_true] at ht
     obtain ⟨hsz,hz⟩:=ht
     obtain ⟨i,v,hi,hv,hok,hone⟩:=mZ_zero (P:=P) (dp:=dp) (F:=F) (G:=G) (w:=w) hz
     have hat:c.argTypes[0]? = some t:=by
      rw [←Array.getElem?_toList,hts];rfl
     obtain ⟨e1,e2,e3⟩:=hf.evals hargs
     have hl:c.args.toList.length=1:=by rw [e1];rfl
     match hx:c.args.toList,hl with
     | [x1],_=>
      rw [hx] at hargs
      simp only [mAs,Bool.and_eq_true] at hargs
      have r1:=hf.eval hargs.1
      have ha0:(c.args.map a.eval)[0]? = some (a.eval x1):=by
       rw [←Array.getElem?_toList];simp [hx]
      have run:∀ w',(Builtin.clear_ c.argTypes o.type (c.args.map a.eval)).run P w = .ok (.tuple #[]) w'→(execOp a.eval o).run P w = .ok (.value (.tuple #[])) w':=by
       intro w' h
       simp only [execOp,ho,resolve,hcal,Sem.run_bind,Sem.run_pure,Result.andThen,invoke,builtin,h]
      have rel:∀ {F':Fix} {G':List Gh} {w'},Rel dp F' G' w' (.tuple #[]) (.tup []):=.tup _ _ rfl fun j v d h=>by simp at h
      rcases he with ⟨id,p,n,cs,h1,hzk,h2,h3,rfl⟩ | ⟨k',nl,ow,h1,rfl⟩
      ·rw [h1] at r1
       generalize hv1:a.eval x1=v1 at r1 ha0
       cases r1 with
       | ar _ _ _ _ cap gh hg hn=>
        cases n with
        | zero=>
         simp only [List.replicate_zero,List.flatten_nil,splice,sset_same h2]
         refine opOk_value (run w ?_) ⟨hs,Ext.refl _ _ _ _⟩ rel
         simp only [Builtin.clear_,hat,ha0,Sem.run_bind,run_underlying hu,Result.andThen]
         rfl
        | succ n=>
         have hk:z.length=k:=hzk
         have hk0:0<k∨k=0:=by omega
         obtain ⟨hok2,hone2⟩:CellsOk dp F G w (Builtin.zeroCells v.cells (n+1)) (List.replicate (n+1) z).flatten∧∀ u∈(Builtin.zeroCells v.cells (n+1)).toList,u.oneCell'=true:=by
          rcases hk0 with hk0 | hk0
          ·exact zero_row hok hone hk hk0
          ·have hz0:z=[]:=List.eq_nil_of_length_eq_zero (by omega)
           have hv0:v.cells.size=0:=by rw [hok.1,hz0];rfl
           have:Builtin.zeroCells v.cells (n+1) = #[]:=by simp [Builtin.zeroCells,hv0,Array.range_zero']
           rw [this,hz0]
           exact ⟨⟨by simp,fun j v d h=>by simp at h⟩,by simp⟩
         have hlen:(List.replicate (n+1) z).flatten.length=(n+1) * k:=by simp [hk]
         obtain ⟨w',hw,hsim⟩:=hs.writeBox (P:=P) (o:=p) (vs:=(Builtin.zeroCells v.cells (n+1)).toList) h2 hg (by simpa using hok2.1) (fun j v d hv hd=>hok2.2 j v d (by simpa using hv) hd) hone2 (by omega)
         refine opOk_value (run w' ?_) hsim rel
         simp only [Builtin.clear_,hat,ha0,Sem.run_bind,run_underlying hu,Result.andThen,zeroValue,typeInfo,run_program,hi,hv,Sem.run_pure,hw]
      ·rw [h1] at r1
       generalize hv1:a.eval x1=v1 at r1 ha0
       refine opOk_value (run w ?_) ⟨hs,Ext.refl _ _ _ _⟩ rel
       cases r1 <;> simp only [Builtin.clear_,hat,ha0,Sem.run_bind,run_underlying hu,Result.andThen] <;> rfl
    ·cases ht
   ·cases ht
  ·cases hb
 ·cases hm
end
end Go.Proofs.YtjniafcnjbbomaaGreatDoor.DE
