/- Joined texts. -/
import GoSem.Dispatch
import Derived.Lib.Replace
import Derived.Lib.ItoaNum
import Derived.Laws.World
import Derived.Laws.Sem
import Derived.Laws.Cells
import Derived.Calls
import GoSem.Extern.BytealgCompare
import Derived.Laws.StructEq
import Derived.Laws.Entries
import Derived.Laws.OwnMore
import Derived.Great.BuildSlice
import Derived.Laws.Externs
set_option linter.all false
open List (all_nil foldl_cons forIn_cons getElem?_drop getElem_of_mem length_cons length_nil range' replicate)
open Bool (and_eq_true false_eq_true not_eq_true')
open Option (isSome_none map_none map_some)
open Nat (add_assoc add_mul add_zero le_max_left le_max_right le_trans mod_lt mul_comm mul_le_mul_right mul_one sub_self zero_add zero_le)
open Array (getD getElem?_toList getElem_toList)
namespace Go.Proofs.YtjniafcnjbbomaaGreatDoor.DE
open Go
theorem gA{Z:Type}{l:List Z}{i:Nat}(h:i<l.length):l[i]?=some l[i]:=List.getElem?_eq_getElem h
theorem gB{Z:Type}{l:List Z}{i:Nat}{a:Z}:l[i]?=some a<->∃h:i<l.length,l[i]=a:=List.getElem?_eq_some_iff
theorem gC{Z:Type}{l:List Z}{i:Nat}{a:Z}(h:l[i]?=some a):a∈l:=List.mem_of_getElem? h
theorem gD{Z:Type}{l:List Z}{i:Nat}{a:Z}:l.getD i a=l[i]?.getD a:=List.getD_eq_getElem?_getD
theorem gE{Z:Type}{l m:List Z}{i:Nat}(h:i<l.length):(l++m)[i]?=l[i]?:=List.getElem?_append_left h
theorem gF{Z:Type}{l m:List Z}{i:Nat}(h:l.length<=i):(l++m)[i]?=m[i-l.length]?:=List.getElem?_append_right h
inductive JB where
 |ro
 |tok (t:Nat)
 |G4
inductive D where
 |top
 |b (x:Bool)
 |i (k:IntKind) (n:Int)
 |s (l:List UInt8)
 |sl (k:Nat) (nil:Bool) (xs:List (List D)) (o:JB)
 |agg (cs:List D)
 |AY (cs:List D)
 |bx (id off:Nat)
 |el (cs:List D) (off:Nat)
 |ar (k id off n:Nat)
 |KO
 |Cy
 |mp (id:Nat)
 |fn (g:Nat) (cs:List D)
instance:Inhabited D:=⟨.top⟩
inductive B9 where
 |box (cs:List D)
 |tok (alive:Bool)
 |map (es:List (D×D))
 |gone
abbrev A1:=List B9
def AA{Z:Type}:List Z->Nat->Option Z
 |[],_=>none
 |e::S,id=>if id=S.length then some e else AA S id
def sset{Z:Type}:List Z->Nat->Z->List Z
 |[],_,_=>[]
 |e::S,id,x=>if id=S.length then x::S else e::sset S id x
def Ah:List D->Nat->D
 |[],_=>.top
 |d::_,0=>d
 |_::l,n+1=>Ah l n
def Bc:List D->Nat->D->List D
 |[],_,_=>[]
 |_::l,0,v=>v::l
 |d::l,n+1,v=>d::Bc l n v
def GW(fr:List D):Option Nat->D->List D
 |none,_=>fr
 |some t,v=>Bc fr t v
def B7:List D->List Nat->List D
 |fr,[]=>fr
 |fr,t::l=>B7 (Bc fr t .top) l
inductive A where
 |t (n:Nat)
 |c (d:D)
def av(fr:List D):A->D
 |.t n=>Ah fr n
 |.c d=>d
def OH(fr:List D):List A->List D
 |[]=>[]
 |x::l=>av fr x::OH fr l
def BF:D->Bool
 |.top=>false
 |.agg _=>false
 |.AY _=>false
 |_=>true
def HO:List D->Bool
 |[]=>true
 |d::l=>BF d&&HO l
theorem Qd:∀{l:List D} {j:Nat} {d:D},HO l=true->l[j]? = some d->BF d=true
 |[],_,_,_,h=>by simp at h
 |x::l,0,d,hn,h=>by simp only[HO,and_eq_true] at hn;simp at h;subst h;exact hn.1
 |x::l,j+1,d,hn,h=>by simp only[HO,and_eq_true] at hn;exact Qd hn.2 (by simpa using h)
def Am(k:Nat)(g:Bool)(d:D):Option (List D):=
 match g with
 |true=>match d with
  |.agg cs=>if cs.length=k/\HO cs=true then some cs else none
  |_=>none
 |false=>if BF d then some [d] else none
def MM(cs:List D)(o k:Nat)(g:Bool):Option D:=
 if g then(if o+k<=cs.length then some (.agg ((cs.drop o).take k)) else none) else cs[o]?
def Ai(cs:List D)(o:Nat):List D->List D
 |[]=>cs
 |d::l=>Ai (Bc cs o d) (o+1) l
inductive SK where
 |i | b | s
inductive KK where
 |one (k:SK)
 |agg (ks:List SK)
inductive Q where
 |num | str | bool | agg (ks:List SK) | sl | map
inductive R where
 |mv (x:A)
 |Et (x:A)
 |pick (c a b:A)
 |alloc (z:List D)
 |box (k:Nat) (g:Bool) (x:A)
 |CT (z:List D) (ps:List (Nat×Nat×Bool×A))
 |EZ (k:Nat) (g:Bool) (own:Bool) (xs:List A)
 |xD (k:Nat) (g:Bool) (xs:List A)
 |ld (k:Nat) (g:Bool) (a:A)
 |st (k:Nat) (g:Bool) (a v:A)
 |bin (op:BinOp) (q:Q) (x y:A)
 |un (op:UnOp) (x:A)
 |conv (k:IntKind) (x:A)
 |KP (g:Nat) (cs:List A)
 |Hy
 |Lo (k:Nat) (arr:Bool) (z:List D) (n:A)
 |Ty (k:Nat) (x:A) (lo hi:Option A)
 |Tz (x:A) (lo hi:Option A)
 |fa (o:Nat) (x:A)
 |Wy (o k:Nat) (g:Bool) (x:A)
 |ia (k:Nat) (x i:A)
 |pA (n k:Nat) (x i:A)
 |pB (x i:A)
 |lk (kk:KK) (ok:Bool) (z:D) (m key:A)
 |mu (kk:KK) (m key v:A)
 |U0 (kk:KK) (z:D) (m key:A)
 |xE (m j v:A)
 |ext (x:A) (j:Nat)
 |len (str:Bool) (x:A)
 |app (k:Nat) (arr:Bool) (x y:A)
 |mx (x y:A)
 |mn (x y:A)
 |xF (k:Nat) (z:List D) (x:A)
 |call (g:Nat) (Gv:Bool) (args:List A)
 |BL (f:A) (Gv:Bool) (args:List A)
 |EN (x y:A)
inductive I where
 |op (dst:Option Nat) (gd:Option (Nat×Bool)) (r:R)
 |fz (t:Nat)
 |ck (t:Nat) (r:R)
inductive C where
 |skip
 |CN (ops:List I) (kill:List Nat)
 |BB (ops:List (Nat×I)) (kill:List Nat)
 |seq (a b:C)
 |cond (c:A) (a b:C)
 |blk (id:Nat) (c:C)
 |loop (kill:List Nat) (c:C)
 |exit (id:Nat)
 |ret
 |bad
inductive Ex where
 |normal
 |exit (id:Nat)
 |ret
inductive om where
 |t (n:Nat)
 |cell (n k:Nat) (g:Bool)
structure Fn where
 real:Nat
 np:Nat
 nt:Nat
 res:List om
 body:C
abbrev A.k(z:Int):A:=.c (.i .i64 z)
abbrev A.T:A:=.c (.b true)
abbrev A.F:A:=.c (.b false)
instance (n:Nat):OfNat A n:=⟨.t n⟩
abbrev D.z(k:Nat):D:=.sl k true [] .ro
abbrev D.n(z:Int):D:=.i .i64 z
instance (n:Nat):OfNat R n:=⟨.mv (.t n)⟩
abbrev R.k(z:Int):R:=.mv (.k z)
abbrev R.T:R:=.mv .T
abbrev R.F:R:=.mv .F
abbrev R.l(x:A):R:=.ld 1 false x
abbrev R.L(k:Nat)(x:A):R:=.ld k true x
abbrev R.s(x y:A):R:=.st 1 false x y
abbrev R.S(k:Nat)(x y:A):R:=.st k true x y
abbrev R.a(g:Nat)(l:List A):R:=.call g true l
abbrev R.n(x:A):R:=.un .not x
abbrev R.o(x y:A):R:=.pick x .T y
abbrev R.p(x y:A):R:=.pick x y .F
abbrev R.ln(x:A):R:=.len false x
abbrev R.add(x y:A):R:=.bin .add .num x y
abbrev R.sub(x y:A):R:=.bin .sub .num x y
abbrev R.eql(x y:A):R:=.bin .eql .num x y
abbrev R.neq(x y:A):R:=.bin .neq .num x y
abbrev R.lss(x y:A):R:=.bin .lss .num x y
abbrev R.gtr(x y:A):R:=.bin .gtr .num x y
abbrev R.geq(x y:A):R:=.bin .geq .num x y
abbrev R.b(o:BinOp)(x y:A):R:=.bin o .num x y
abbrev I.o(n:Nat)(r:R):I:=.op (some n) none r
abbrev I.g(n k:Nat)(r:R):I:=.op (some n) (some (k,true)) r
abbrev I.h(n k:Nat)(r:R):I:=.op (some n) (some (k,false)) r
abbrev I.e(r:R):I:=.op none none r
def uu:Nat->List R->List I
 |_,[]=>[]
 |n,r::l=>.op (some n) none r::uu (n+1) l
def ug(k:Nat)(b:Bool):Nat->List R->List I
 |_,[]=>[]
 |n,r::l=>.op (some n) (some (k,b)) r::ug k b (n+1) l
def rr:Nat->Nat->List Nat
 |_,0=>[]
 |n,m+1=>n::rr (n+1) m
abbrev C.u(n:Nat)(l:List R)(k:List Nat)(c:C):C:=.seq (.CN (uu n l) k) c
abbrev C.w(x:A)(a b:C):C:=.seq (.cond x a .skip) b
abbrev C.x(x:A)(n:Nat)(b:C):C:=.seq (.cond x .skip (.exit n)) b
abbrev C.j(n m:Nat)(k:List Nat):C:=.CN [.o n (.add (.t m) (.k 1)),.o m (.mv (.t n))] k
abbrev C.q(l:List I)(k:List Nat)(c:C):C:=.seq (.CN l k) c
instance (n:Nat):OfNat om n:=⟨.t n⟩
mutual
def AG:D->Bool
 |.top=>true
 |.b _=>true
 |.i _ _=>true
 |.s _=>true
 |.sl _ _ xs o=>(match o with | .tok _=>false | _=>true)&&Bo xs
 |.agg cs=>A9 cs
 |.AY cs=>A9 cs
 |.bx _ _=>false
 |.el _ _=>false
 |.ar _ _ _ _=>false
 |.KO=>true
 |.Cy=>true
 |.mp _=>false
 |.fn _ cs=>A9 cs
def A9:List D->Bool
 |[]=>true
 |d::l=>AG d&&A9 l
def Bo:List (List D)->Bool
 |[]=>true
 |x::l=>A9 x&&Bo l
end
def oeq:JB->JB->Bool
 |.ro,.ro=>true
 |.tok a,.tok b=>a==b
 |.G4,.G4=>true
 |_,_=>false
mutual
def GF:D->D->Bool
 |.top,.top=>true
 |.b x,.b y=>x==y
 |.i k x,.i l y=>decide (k=l)&&x==y
 |.s x,.s y=>x==y
 |.sl k n xs o,.sl l m ys p=>k==l&&n==m&&oeq o p&&NP xs ys
 |.agg x,.agg y=>Lm x y
 |.AY x,.AY y=>Lm x y
 |.bx a b,.bx c d=>a==c&&b==d
 |.el x a,.el y b=>a==b&&Lm x y
 |.ar a b c d,.ar e f g h=>a==e&&b==f&&c==g&&d==h
 |.KO,.KO=>true
 |.Cy,.Cy=>true
 |.mp a,.mp b=>a==b
 |.fn a x,.fn b y=>a==b&&Lm x y
 |_,_=>false
def Lm:List D->List D->Bool
 |[],[]=>true
 |x::l,y::m=>GF x y&&Lm l m
 |_,_=>false
def NP:List (List D)->List (List D)->Bool
 |[],[]=>true
 |x::l,y::m=>Lm x y&&NP l m
 |_,_=>false
end
def Lx:D->D
 |.sl k n xs _=>.sl k n xs .ro
 |d=>d
def EW:List D->List D
 |[]=>[]
 |d::l=>Lx d::EW l
def strip:D->D
 |.sl k n xs _=>.sl k n xs .ro
 |.agg cs=>.agg (EW cs)
 |d=>d
def stripL:List D->List D
 |[]=>[]
 |d::l=>strip d::stripL l
def Ae:D->D
 |.AY cs=>.AY (stripL cs)
 |d=>strip d
def seq1:D->D->Option Bool
 |.b x,.b y=>some (x==y)
 |.i k x,.i k' y=>if k=k' then some (x==y) else none
 |.s x,.s y=>some (x==y)
 |_,_=>none
def HV:SK->D->Bool
 |.i,.i _ _=>true
 |.b,.b _=>true
 |.s,.s _=>true
 |_,_=>false
def Ew:List SK->List D->List D->Option Bool
 |[],[],[]=>some true
 |k::ks,x::l,y::m=>if HV k x&&HV k y then(match seq1 x y,Ew ks l m with
  |some p,some q=>some (p&&q)
  |_,_=>none) else none
 |_,_,_=>none
def QZ:KK->D->D->Option Bool
 |.agg ks,.agg xs,.agg ys=>Ew ks xs ys
 |.one k,x,y=>if HV k x&&HV k y then seq1 x y else none
 |_,_,_=>none
def VF:List SK->List D->Bool
 |[],[]=>true
 |k::ks,x::l=>HV k x&&VF ks l
 |_,_=>false
def isKey:KK->D->Bool
 |.agg ks,.agg xs=>VF ks xs
 |.one k,x=>HV k x
 |_,_=>false
def EI(op:BinOp)(k:IntKind)(x y:Int):Option D:=
 match op with
 |.add=>some (.i k (k.wrap (x+y)))
 |.sub=>some (.i k (k.wrap (x-y)))
 |.mul=>some (.i k (k.wrap (x*y)))
 |.quo=>if y=0 then none else some (.i k (k.wrap (x.tdiv y)))
 |.rem=>if y=0 then none else some (.i k (x.tmod y))
 |.and=>some (.i k (k.wrap (BitVec.ofInt k.bits x &&& BitVec.ofInt k.bits y).toNat))
 |.or=>some (.i k (k.wrap (BitVec.ofInt k.bits x ||| BitVec.ofInt k.bits y).toNat))
 |.xor=>some (.i k (k.wrap (BitVec.ofInt k.bits x ^^^ BitVec.ofInt k.bits y).toNat))
 |.eql=>some (.b (x==y))
 |.neq=>some (.b (x != y))
 |.lss=>some (.b (decide (x<y)))
 |.leq=>some (.b (decide (x<=y)))
 |.gtr=>some (.b (decide (x>y)))
 |.geq=>some (.b (decide (x≥y)))
 |_=>none
def o0(op:BinOp)(k:IntKind)(x y:Int):Option D:=
 if y<0 then none else
 match op with
 |.shl=>some (.i k (k.wrap (x*2^(min y.toNat k.bits))))
 |.shr=>some (.i k (x.fdiv (2^(min y.toNat k.bits))))
 |_=>none
def og(op:BinOp)(r:Option Bool):Option D:=
 match op,r with
 |.eql,some r=>some (.b r)
 |.neq,some r=>some (.b (!r))
 |_,_=>none
def A4(op:BinOp)(q:Q)(x y:D):Option D:=
 match q,x,y with
 |.num,.i k a,.i k' b=>
  match op with
  |.shl=>o0 .shl k a b
  |.shr=>o0 .shr k a b
  |op=>if k=k' then EI op k a b else none
 |.str,.s a,.s b=>
  match op with
  |.add=>if a.length+b.length<=1048576 then some (.s (a++b)) else none
  |.eql=>some (.b (a==b))
  |.neq=>some (.b (!(a==b)))
  |.lss=>some (.b (Op.bytesLess a b))
  |_=>none
 |.bool,.b a,.b b=>og op (some (a==b))
 |.agg ks,.agg a,.agg b=>og op (Ew ks a b)
 |.sl,.sl _ n _ _,.sl _ true _ _=>og op (some n)
 |.map,.Cy,.Cy=>og op (some true)
 |.map,.mp _,.Cy=>og op (some false)
 |_,_,_=>none
def ES(op:UnOp)(x:D):Option D:=
 match op,x with
 |.not,.b x=>some (.b (!x))
 |.neg,.i k n=>some (.i k (k.wrap (0-n)))
 |.xor,.i k n=>EI .xor k (if k.signed then -1 else k.max) n
 |_,_=>none
def AP:Nat:=1048576
def chunks(k:Nat):Nat->List D->List (List D)
 |0,_=>[]
 |n+1,cs=>cs.take k::chunks k n (cs.drop k)
def intOf:D->Option Int
 |.i _ n=>some n
 |_=>none
def bounds(n:Nat)(lo hi:Option D):Option (Nat×Nat):=
 match hi with
 |none=>match lo with
  |none=>some (0,n)
  |some (.i _ l)=>if 0<=l/\l<=n then some (l.toNat,n) else none
  |_=>none
 |some (.i _ h)=>if 0<=h/\h<=n then(match lo with
  |none=>some (0,h.toNat)
  |some (.i _ l)=>if 0<=l/\l<=h then some (l.toNat,h.toNat) else none
  |_=>none) else none
 |_=>none
def yF(kk:KK)(key:D):List (D×D)->Option (Option D)
 |[]=>some none
 |(k,v)::es=>match QZ kk key k with
  |some true=>some (some v)
  |some false=>yF kk key es
  |none=>none
def oy(kk:KK)(key v:D):List (D×D)->Option (List (D×D))
 |[]=>some [(key,v)]
 |(k,u)::es=>match QZ kk key k with
  |some true=>some ((key,v)::es)
  |some false=>(oy kk key v es).map ((k,u) :: ·)
  |none=>none
def Hf(kk:KK)(key:D):List (D×D)->Nat->Option (Option Nat)
 |[],_=>some none
 |(k,_)::es,j=>match QZ kk key k with
  |some true=>some (some j)
  |some false=>Hf kk key es (j+1)
  |none=>none
def cY(key:D):Nat->List (D×D)->List (D×D)
 |_,[]=>[]
 |0,(_,v)::es=>(key,v)::es
 |j+1,e::es=>e::cY key j es
def Xi(v:D):Nat->List (D×D)->List (D×D)
 |_,[]=>[]
 |0,(k,_)::es=>(k,v)::es
 |j+1,e::es=>e::Xi v j es
def Qi(fr:List D)(z:List D):List (Nat×Nat×Bool×A)->Option (List D)
 |[]=>some z
 |(o,k,g,x)::ps=>match Am k g (av fr x) with
  |some cs=>if o+k<=z.length then Qi fr (Ai z o cs) ps else none
  |none=>none
def Bk(fr:List D)(k:Nat)(g:Bool):List A->Option (List (List D))
 |[]=>some []
 |x::l=>match Am k g (av fr x),Bk fr k g l with
  |some cs,some r=>some (cs::r)
  |_,_=>none
abbrev AQ:=Nat->List D->A1->Option (D×A1)
def A0(call:AQ)(g:Nat)(args:List D):Option D:=
 if A9 (stripL args) then
  match call g (stripL args) [] with
  |some (r,_)=>if AG (Ae r) then some (Ae r) else none
  |none=>none
 else none
def Hj(call:AQ)(g:Nat)(Gv:Bool)(args:List D)(S:A1):Option (D×A1):=
 if Gv then(A0 call g args).map fun r=>(r,S) else call g args S
def pK(k id n:Nat)(ys:List (List D))(S:A1):Option (D×A1):=
 match AA S id with
 |some (.box cs)=>if n*k<=cs.length then some (.ar k S.length 0 (n+ys.length),.box (cs.take (n*k)++ys.flatten)::sset S id .gone) else none
 |_=>none
def Be(
     k:Nat) (arr:Bool) (x y:D) (S:A1):Option (D×A1):=
 match x,y with
 |.ar k1 id o n,.sl k2 _ ys _=>if k1=k/\(k2=k\/ys=[])/\n+ys.length<=AP/\o=0 then pK k id n ys S else none
 |.sl k1 nil xs o,.sl k2 _ ys _=>
  if k1=k/\(k2=k\/ys=[])/\xs.length+ys.length<=AP then
   match o with
   |.tok t=>match AA S t with
    |some (.tok true)=>if arr||nil then none else some (.sl k false (xs++ys) (.tok S.length),.tok true::sset S t (.tok false))
    |_=>none
   |o=>
    if(match o with|.G4=>true|_=>nil) then
     (if ys.isEmpty then some (x,S)
     else if arr then some (.ar k S.length 0 ys.length,.box ys.flatten::S)
     else some (.sl k false ys (.tok S.length),.tok true::S))
    else none
  else none
 |_,_=>none
def AE(S:A1)(k:Nat)(g:Bool):D->Option D
 |.bx id o=>match AA S id with
  |some (.box cs)=>MM cs o k g
  |_=>none
 |.el cs o=>MM cs o k g
 |_=>none
def Ax(S:A1)(k:Nat)(g:Bool)(a v:D):Option A1:=
 match a with
 |.bx id o=>match AA S id with
  |some (.box cs)=>match Am k g v with
   |some l=>if o+k<=cs.length then some (sset S id (.box (Ai cs o l))) else none
   |none=>none
  |_=>none
 |_=>none
def Ak(k:Nat)(x i:D):Option D:=
 match x,i with
 |.sl k' _ xs _,.i _ n=>if 0<=n/\k'=k then(xs[n.toNat]?).map fun cs=>.el cs 0 else none
 |.ar k' id o m,.i _ n=>if 0<=n/\n<m/\k'=k then some (.bx id (o+n.toNat*k)) else none
 |_,_=>none
def GG(k:Nat)(x:D)(lo hi:Option D):Option D:=
 match x with
 |.sl k' nil xs _=>
  if k'=k then(match bounds xs.length lo hi with
   |some (l,h)=>some (.sl k nil ((xs.drop l).take (h-l)) .ro)
   |none=>none) else none
 |.ar k' id o n=>
  if k'=k then(match bounds n lo hi with
   |some (l,h)=>if h=l then some (.sl k false [] .ro) else some (.ar k id (o+l*k) (h-l))
   |none=>none) else none
 |_=>none
def gr(x:D)(lo hi:Option D):Option D:=
 match x with
 |.s l=>match bounds l.length lo hi with
   |some (p,q)=>some (.s ((l.drop p).take (q-p)))
   |none=>none
 |_=>none
def Vo(fr:List D):Option A->Option D
 |none=>none
 |some x=>some (av fr x)
def E7(call:AQ)(fr:List D)(S:A1):R->Option (D×A1)
 |.mv x=>some (av fr x,S)
 |.Et x=>match av fr x with
  |.bx i o=>some (.bx i o,S)
  |.el c o=>some (.el c o,S)
  |.fn g c=>some (.fn g c,S)
  |_=>none
 |.pick c a b=>match av fr c with
  |.b x=>some (if x then av fr a else av fr b,S)
  |_=>none
 |.alloc z=>some (.bx S.length 0,.box z::S)
 |.box k g x=>(Am k g (av fr x)).map fun cs=>(.bx S.length 0,.box cs::S)
 |.CT z ps=>(Qi fr z ps).map fun cs=>(.agg cs,S)
 |.EZ k g own xs=>(Bk fr k g xs).map fun l=>
   if own then(if l.isEmpty then(.sl k false [] .G4,S) else(.sl k false l (.tok S.length),.tok true::S)) else(.sl k false l .ro,S)
 |.xD k g xs=>(Bk fr k g xs).map fun l=>(.ar k S.length 0 l.length,.box l.flatten::S)
 |.ld k g a=>(AE S k g (av fr a)).map fun d=>(d,S)
 |.st k g a v=>(Ax S k g (av fr a) (av fr v)).map fun S'=>(.AY [],S')
 |.bin op q x y=>(A4 op q (av fr x) (av fr y)).map fun d=>(d,S)
 |.un op x=>(ES op (av fr x)).map fun d=>(d,S)
 |.conv k x=>match av fr x with
  |.i _ n=>some (.i k (k.wrap n),S)
  |_=>none
 |.KP g cs=>some (.fn g (OH fr cs),S)
 |.Hy=>some (.mp S.length,.map []::S)
 |.Lo k arr z n=>match av fr n with
  |.i _ m=>if 0<=m/\m<=AP then
    (if arr then some (.ar k S.length 0 m.toNat,.box (replicate m.toNat z).flatten::S)
    else(if m=0 then some (.sl k false [] .G4,S) else some (.sl k false (replicate m.toNat z) (.tok S.length),.tok true::S))) else none
  |_=>none
 |.Ty k x lo hi=>(GG k (av fr x) (Vo fr lo) (Vo fr hi)).map fun d=>(d,S)
 |.Tz x lo hi=>(gr (av fr x) (Vo fr lo) (Vo fr hi)).map fun d=>(d,S)
 |.fa o x=>match av fr x with
  |.bx id p=>some (.bx id (p+o),S)
  |.el cs p=>some (.el cs (p+o),S)
  |_=>none
 |.Wy o k g x=>match av fr x with
  |.agg cs=>(MM cs o k g).map fun d=>(d,S)
  |_=>none
 |.ia k x i=>(Ak k (av fr x) (av fr i)).map fun d=>(d,S)
 |.pA n k x i=>match av fr x,av fr i with
  |.bx id o,.i _ m=>if 0<=m/\m<n then some (.bx id (o+m.toNat*k),S) else none
  |_,_=>none
 |.pB x i=>match av fr x,av fr i with
  |.s l,.i _ m=>if 0<=m then(l[m.toNat]?).map fun c=>(.i .u8 c.toNat,S) else none
  |_,_=>none
 |.lk kk ok z m key=>if isKey kk (av fr key) then
   (match av fr m with
   |.Cy=>some (if ok then .AY [z,.b false] else z,S)
   |.mp id=>match AA S id with
    |some (.map es)=>match yF kk (av fr key) es with
     |some (some v)=>some (if ok then .AY [v,.b true] else v,S)
     |some none=>some (if ok then .AY [z,.b false] else z,S)
     |none=>none
    |_=>none
   |_=>none) else none
 |.mu kk m key v=>if isKey kk (av fr key) then
   (match av fr m with
   |.mp id=>match AA S id with
    |some (.map es)=>(oy kk (av fr key) (av fr v) es).map fun OI=>(.AY [],sset S id (.map OI))
    |_=>none
   |_=>none) else none
 |.U0 kk z m key=>if isKey kk (av fr key) then
   (match av fr m with
   |.mp id=>match AA S id with
    |some (.map es)=>match Hf kk (av fr key) es 0 with
     |some (some j)=>match es[j]? with
      |some e=>some (.AY [e.2,.i .i64 j],sset S id (.map (cY (av fr key) j es)))
      |none=>none
     |some none=>some (.AY [z,.i .i64 es.length],sset S id (.map (es++[(av fr key,z)])))
     |none=>none
    |_=>none
   |_=>none) else none
 |.xE m j v=>match av fr m,av fr j with
  |.mp id,.i _ n=>match AA S id with
   |some (.map es)=>if 0<=n/\n<es.length then some (.AY [],sset S id (.map (Xi (av fr v) n.toNat es))) else none
   |_=>none
  |_,_=>none
 |.ext x j=>match av fr x with
  |.AY cs=>(cs[j]?).map fun d=>(d,S)
  |_=>none
 |.len str x=>match str,av fr x with
  |false,.sl _ _ xs _=>some (.i .i64 xs.length,S)
  |false,.ar _ _ _ n=>some (.i .i64 n,S)
  |true,.s l=>some (.i .i64 l.length,S)
  |_,_=>none
 |.app k arr x y=>Be k arr (av fr x) (av fr y) S
 |.mx x y=>match av fr x,av fr y with
  |.i k a,.i k' b=>if k=k' then some (.i k (if b>a then b else a),S) else none
  |_,_=>none
 |.mn x y=>match av fr x,av fr y with
  |.i k a,.i k' b=>if k=k' then some (.i k (if b<a then b else a),S) else none
  |_,_=>none
 |.xF k z x=>match av fr x with
  |.ar k' id o n=>if k'=k/\z.length=k then(match AA S id with
   |some (.box cs)=>if o+n*k<=cs.length then some (.AY [],sset S id (.box (Ai cs o (replicate n z).flatten))) else none
   |_=>none) else none
  |.sl _ _ [] _=>some (.AY [],S)
  |_=>none
 |.call g Gv args=>Hj call g Gv (OH fr args) S
 |.BL f Gv args=>match av fr f with
  |.fn g cs=>Hj call g Gv (OH fr args++cs) S
  |_=>none
 |.EN x y=>match av fr x,av fr y with
  |.s a,.s b=>some (.i .i64 (if Op.bytesLess a b then -1 else if a==b then 0 else 1),S)
  |_,_=>none
def wanted(fr:List D):Option (Nat×Bool)->Option Bool
 |none=>some true
 |some (t,w)=>match Ah fr t with
  |.b x=>some (x==w)
  |.AY []=>some false
  |_=>none
def fzA(Ls:Nat)(d:D)(S:A1):Option (D×A1):=
 match d with
 |.ar k id o n=>if id=Ls then none else(match AA S id with
  |some (.box cs)=>if o+n*k<=cs.length then some (.sl k false (chunks k n (cs.drop o)) .ro,sset S id .gone) else none
  |_=>none)
 |d=>some (d,S)
def fzL(Ls:Nat):List D->A1->Option (List D×A1)
 |[],S=>some ([],S)
 |d::l,S=>match fzA Ls d S with
  |some (d',S')=>match fzL Ls l S' with
   |some (l',OJ)=>some (d'::l',OJ)
   |none=>none
  |none=>none
def Lr(d:D)(S:A1):Option (D×A1):=
 match d with
 |.ar k id o n=>match AA S id with
  |some (.box cs)=>if o+n*k<=cs.length then some (.sl k false (chunks k n (cs.drop o)) .ro,sset S id .gone) else none
  |_=>none
 |.sl k nil xs _=>some (.sl k nil xs .ro,S)
 |.bx id o=>match AA S id with
  |some (.box cs)=>match fzL id cs S with
   |some (ah,S')=>some (.bx id o,sset S' id (.box ah))
   |none=>none
  |_=>none
 |_=>none
def Mv(call:AQ)(fr:List D)(S:A1):I->Option (List D×A1)
 |.op dst gd r=>match wanted fr gd with
  |some true=>(E7 call fr S r).map fun(d,S')=>(GW fr dst d,S')
  |some false=>some (GW fr dst (.AY []),S)
  |none=>none
 |.fz t=>(Lr (Ah fr t) S).map fun(d,S')=>(Bc fr t d,S')
 |.ck t r=>match E7 call fr S r with
  |some (d,_)=>if GF d (Ah fr t) then some (fr,S) else none
  |none=>none
def GX(call:AQ):List D->A1->List I->Option (List D×A1)
 |fr,S,[]=>some (fr,S)
 |fr,S,o::os=>match Mv call fr S o with
  |some (Au,S')=>GX call Au S' os
  |none=>none
abbrev Out:=Ex×List D×A1
def Kr:List (Nat×I)->List I
 |[]=>[]
 |(_,o)::l=>o::Kr l
def iter(f:List D->A1->Option Out):Nat->List D->A1->Option Out
 |0,_,_=>none
 |n+1,fr,S=>match f fr S with
  |some (.normal,Au,S')=>iter f n Au S'
  |r=>r
def exec(call:AQ)(n:Nat):C->List D->A1->Option Out
 |.skip,fr,S=>some (.normal,fr,S)
 |.CN ops kill,fr,S=>match GX call fr S ops with
  |some (Au,S')=>some (.normal,B7 Au kill,S')
  |none=>none
 |.BB ops kill,fr,S=>match GX call fr S (Kr ops) with
  |some (Au,S')=>some (.normal,B7 Au kill,S')
  |none=>none
 |.seq a b,fr,S=>match exec call n a fr S with
  |some (.normal,Au,S')=>exec call n b Au S'
  |r=>r
 |.cond c a b,fr,S=>match av fr c with
  |.b true=>exec call n a fr S
  |.b false=>exec call n b fr S
  |_=>none
 |.blk id c,fr,S=>match exec call n c fr S with
  |some (.exit j,Au,S')=>some (if j=id then .normal else .exit j,Au,S')
  |r=>r
 |.loop kl c,fr,S=>iter (fun fr S=>exec call n c (B7 fr kl) S) n fr S
 |.exit id,fr,S=>some (.exit id,fr,S)
 |.ret,fr,S=>some (.ret,fr,S)
 |.bad,_,_=>none
def nS(fr:List D)(S:A1):om->Option D
 |.t n=>some (Ah fr n)
 |.cell n k g=>match Ah fr n with
  |.bx id o=>AE S k g (.bx id o)
  |_=>none
def Kg(fr:List D)(S:A1):List om->Option (List D)
 |[]=>some []
 |r::l=>match nS fr S r,Kg fr S l with
  |some d,some m=>some (d::m)
  |_,_=>none
def Z6:List D->D
 |[d]=>d
 |l=>.AY l
def finish(f:Fn):Option Out->Option (D×A1)
 |some (.normal,fr,S)=>(Kg fr S f.res).map fun l=>(Z6 l,S)
 |some (.ret,fr,S)=>(Kg fr S f.res).map fun l=>(Z6 l,S)
 |_=>none
def Bm(f:Fn)(args:List D):List D:=args++replicate (f.nt-f.np) .top
def Jl:List (List D)->Option (List (List UInt8))
 |[]=>some []
 |[.s a]::l=>(Jl l).map (a :: ·)
 |_=>none
def Jo(c:AQ)(g:Nat)(p:List D×List D):Option Int:=match A0 c g [.agg p.1,.agg p.2] with
 |some (.i .i64 z)=>some z
 |_=>none
def EN(c:AQ)(g:Nat):List (List D×List D)->Option (List Int)
 |[]=>some []
 |p::l=>match Jo c g p,EN c g l with
  |some z,some t=>some (z::t)
  |_,_=>none
def KI(rows:List (List D)):List (List D×List D):=rows.flatMap fun x=>rows.map fun y=>(x,y)
def iq(t:List Int)(n i j:Nat):Bool:=decide (t.getD (i*n+j) 0<0)
def okT(lt:Nat->Nat->Bool)(rows:List (List D)):Bool:=
 (List.range rows.length).all fun i=>(List.range rows.length).all fun j=>!(lt i j&&lt j i)&&((lt i j||lt j i)||Lm (rows.getD i []) (rows.getD j [])) &&
  (List.range rows.length).all fun k=>lt i j||lt j k||!lt i k
def eg(lt:Nat->Nat->Bool)(i:Nat):List Nat->List Nat
 |[]=>[i]
 |j::l=>if lt j i then j::eg lt i l else i::j::l
def OW(lt:Nat->Nat->Bool):List Nat->List Nat
 |[]=>[]
 |i::l=>eg lt i (OW lt l)
def Yw:JB->Bool
 |.ro=>true
 |_=>false
mutual
def BJ:D->Bool
 |.b _=>true
 |.i _ _=>true
 |.s _=>true
 |.sl _ _ xs o=>Yw o&&GB xs
 |_=>false
def EG:List D->Bool
 |[]=>true
 |d::l=>BJ d&&EG l
def GB:List (List D)->Bool
 |[]=>true
 |x::l=>EG x&&GB l
end
def Ha(c:AQ)(k g:Nat)(rows:List (List D)):Option (List (List D)):=
 if GB rows=true/\rows.length<=1048576/\rows.all (fun x=>decide (x.length=k))=true then(match EN c g (KI rows) with
  |some t=>if okT (iq t rows.length) rows then some ((OW (iq t rows.length) (List.range rows.length)).map fun i=>rows.getD i []) else none
  |none=>none)
 else none
def Bb(c:AQ)(f:Fn)(args:List D)(S:A1):Option (D×A1):=
 if f.np=1001 then(match args with
  |[.sl 1 _ xs _,.s sep]=>match Jl xs with
   |some l=>if(sep.intercalate l).length<=1048576/\l.length<=1048576 then some (.s (sep.intercalate l),S) else none
   |none=>none
  |_=>none)
 else if f.np=1002 then(match args with
  |[.s s,.s old,.s new]=>if s.length<=1048576/\1<=old.length/\new.length<=1024 then some (.s (Lib.replaceAll s old new),S) else none
  |_=>none)
 else if f.np=1003 then(match args with
  |[.i .i64 n]=>if -9223372036854775808<=n/\n<=9223372036854775807 then some (.s (Lib.itoa n),S) else none
  |_=>none)
 else if f.np=1004 then(match args with
  |[.i .i64 n,.i .i64 b]=>if b=10/\-9223372036854775808<=n/\n<=9223372036854775807 then some (.s (Lib.itoa n),S) else none
  |_=>none)
 else if 3000<=f.np then(match args with
  |[.ar k id o n,.i .i64 a,.i .i64 b,.i .i64 lim,.fn g []]=>if(k=f.np-3000/\0<k)/\a=0/\b=n/\0<=lim/\lim<4611686018427387904 then(match AA S id with
   |some (.box cs)=>if o+n*k<=cs.length then(match Ha c k g (chunks k n (cs.drop o)) with
    |some rows=>some (.AY [],sset S id (.box (Ai cs o rows.flatten)))
    |none=>none) else none
   |_=>none) else none
  |[.sl _ _ [] _,.i .i64 a,.i .i64 b,.i .i64 _,.fn _ []]=>if a=0/\b=0 then some (.AY [],S) else none
  |_=>none)
 else if 2000<=f.np then(match args with
  |[.sl k true [] _,.i .i64 n]=>if k=f.np-2000 then(if 0<n/\n<=1048576 then some (.sl k false [] (.tok S.length),.tok true::S) else if n=0 then some (.sl k true [] .ro,S) else none) else none
  |_=>none)
 else none
def wz:List Nat:=[114,116,144,170,171,172,173,174,175,176,177,200,222,245,246,247,248,312,313]
def Ky(dp:Nat->Option Fn):Nat->Option Fn:=fun g=>match dp g with
 |some f=>if f.np<1000/\wz.contains g=true then some f else none
 |none=>none
def Bu:(Nat->Option Fn)->Nat->AQ
 |_,0,_,_,_=>none
 |dp,n+1,g,args,S=>match dp g with
  |some f=>if args.length=f.np/\f.np<=f.nt then finish f (exec (Bu dp n) n f.body (Bm f args) S) else Bb (Bu (Ky dp) n) f args S
  |none=>none
def H3{Z:Type}(x y:Option Z):Prop:=∀r,x=some r->y=some r
theorem H3.refl{Z:Type}(x:Option Z):H3 x x:=fun _ h=>h
theorem H3.trans{Z:Type}{x y z:Option Z}(h:H3 x y)(k:H3 y z):H3 x z:=fun r e=>k r (h r e)
theorem H3.map{Z β:Type}{x y:Option Z}(h:H3 x y)(f:Z->β):H3 (x.map f) (y.map f):=by
 intro r e;cases hx:x with
 |none=>simp[hx] at e
 |some a=>rw[h a hx];rw[hx] at e;exact e
def eK(c d:AQ):Prop:=∀g a S,H3 (c g a S) (d g a S)
theorem OM{c d:AQ}(h:eK c d)(g:Nat)(args:List D):H3 (A0 c g args) (A0 d g args):=by
 intro r e;unfold A0 at *;split at e
 .rename_i hn;rw[if_pos hn];cases hc:c g (stripL args) [] with
  |none=>simp[hc] at e
  |some p=>rw[h _ _ _ p hc];rw[hc] at e;exact e
 .cases e
theorem To{c d:AQ}(h:eK c d)(g:Nat)(Gv:Bool)(args:List D)(S:A1):H3 (Hj c g Gv args S) (Hj d g Gv args S):=by
 unfold Hj;cases Gv with
 |true=>exact(OM h g args).map _
 |false=>exact h _ _ _
theorem Zf{c d:AQ}(h:eK c d)(fr:List D)(S:A1)(r:R):H3 (E7 c fr S r) (E7 d fr S r):=by
 cases r with
 |call g Gv args=>exact To h _ _ _ _
 |BL f Gv args=>
  intro x e;simp only[E7] at *;split at e
  .exact To h _ _ _ _ _ e
  .cases e
 |_=>exact H3.refl _
theorem Zs{c d:AQ}(h:eK c d)(fr:List D)(S:A1)(o:I):H3 (Mv c fr S o) (Mv d fr S o):=by
 cases o with
 |op dst gd r=>
  intro x e;simp only[Mv] at *;split at e
  .exact(Zf h fr S r).map _ _ e
  .exact e
  .cases e
 |fz t=>exact H3.refl _
 |ck t r=>
  intro x e;simp only[Mv] at *;cases hr:E7 c fr S r with
  |none=>simp[hr] at e
  |some p=>rw[Zf h fr S r p hr];rw[hr] at e;exact e
theorem JE{c d:AQ}(h:eK c d):∀(os:List I) (fr:List D) (S:A1),H3 (GX c fr S os) (GX d fr S os)
 |[],_,_=>H3.refl _
 |o::os,fr,S=>by
  intro x e;simp only[GX] at *;cases hi:Mv c fr S o with
  |none=>simp[hi] at e
  |some p=>
   rw[Zs h fr S o p hi];rw[hi] at e;exact JE h os _ _ _ e
theorem CZ{f g:List D->A1->Option Out}(h:∀fr S,H3 (f fr S) (g fr S)):∀(n m:Nat),n<=m->∀fr S,H3 (iter f n fr S) (iter g m fr S)
 |0,_,_,_,_=>fun _ e=>by cases e
 |n+1,0,hm,_,_=>absurd hm (by omega)
 |n+1,m+1,hm,fr,S=>by
  intro x e;simp only[iter] at *;cases hf:f fr S with
  |none=>simp[hf] at e
  |some p=>
   rw[h fr S p hf];rw[hf] at e;obtain⟨ex,Au,S'⟩:=p;cases ex with
   |normal=>exact CZ h n m (by omega) _ _ _ e
   |exit _=>exact e
   |ret=>exact e
theorem EL{c d:AQ}(h:eK c d){n m:Nat}(hm:n<=m):∀(co:C) (fr:List D) (S:A1),H3 (exec c n co fr S) (exec d m co fr S)
 |.skip,_,_=>H3.refl _
 |.CN ops kill,fr,S=>by
  intro x e;simp only[exec] at *;cases hi:GX c fr S ops with
  |none=>simp[hi] at e
  |some p=>rw[JE h ops fr S p hi];rw[hi] at e;exact e
 |.BB ops kill,fr,S=>by
  intro x e;simp only[exec] at *;cases hi:GX c fr S (Kr ops) with
  |none=>simp[hi] at e
  |some p=>rw[JE h (Kr ops) fr S p hi];rw[hi] at e;exact e
 |.seq a b,fr,S=>by
  intro x e;simp only[exec] at *;cases ha:exec c n a fr S with
  |none=>simp[ha] at e
  |some p=>
   rw[EL h hm a fr S p ha];rw[ha] at e;obtain⟨ex,Au,S'⟩:=p;cases ex with
   |normal=>exact EL h hm b _ _ _ e
   |exit _=>exact e
   |ret=>exact e
 |.cond q a b,fr,S=>by
  intro x e;simp only[exec] at *;cases hq:av fr q with
  |b y=>
   rw[hq] at e;cases y with
   |true=>exact EL h hm a _ _ _ e
   |false=>exact EL h hm b _ _ _ e
  |_=>simp[hq] at e
 |.blk id a,fr,S=>by
  intro x e;simp only[exec] at *;cases ha:exec c n a fr S with
  |none=>simp[ha] at e
  |some p=>rw[EL h hm a fr S p ha];rw[ha] at e;exact e
 |.loop kl a,fr,S=>CZ (fun fr S=>EL h hm a (B7 fr kl) S) n m hm fr S
 |.exit _,_,_=>H3.refl _
 |.ret,_,_=>H3.refl _
 |.bad,_,_=>H3.refl _
theorem K7(f:Fn){x y:Option Out}(h:H3 x y):H3 (finish f x) (finish f y):=by
 intro r e;cases hx:x with
 |none=>simp[hx,finish] at e
 |some p=>rw[h p hx];rw[hx] at e;exact e
theorem VD{c d:AQ}(h:eK c d)(g:Nat)(p:List D×List D):H3 (Jo c g p) (Jo d g p):=by
 intro r e;unfold Jo at *;cases hc:A0 c g [.agg p.1,.agg p.2] with
 |none=>rw[hc] at e;cases e
 |some x=>rw[OM h _ _ _ hc];rw[hc] at e;exact e
theorem Pu{c d:AQ}(h:eK c d)(g:Nat):∀l,H3 (EN c g l) (EN d g l)
 |[]=>H3.refl _
 |p::l=>by
  intro r e;simp only[EN] at *;cases h1:Jo c g p with
  |none=>rw[h1] at e;cases e
  |some z=>
   rw[VD h g p z h1];cases h2:EN c g l with
   |none=>rw[h1,h2] at e;cases e
   |some t=>rw[Pu h g l t h2];rw[h1,h2] at e;exact e
theorem cF{c d:AQ}(h:eK c d)(k g:Nat)(rows:List (List D)):H3 (Ha c k g rows) (Ha d k g rows):=by
 intro r e;unfold Ha at *;split at e
 .rename_i h0;rw[if_pos h0];cases h1:EN c g (KI rows) with
  |none=>rw[h1] at e;cases e
  |some t=>rw[Pu h g _ t h1];rw[h1] at e;exact e
 .cases e
theorem L1{c d:AQ}(h:eK c d)(f:Fn)(args:List D)(S:A1):H3 (Bb c f args S) (Bb d f args S):=by
 intro r e;unfold Bb at *;by_cases h1:f.np=1001
 .rw[if_pos h1] at *;exact e
 by_cases h2:f.np=1002
 .rw[if_neg h1,if_pos h2] at *;exact e
 by_cases h3:f.np=1003
 .rw[if_neg h1,if_neg h2,if_pos h3] at *;exact e
 by_cases h4:f.np=1004
 .rw[if_neg h1,if_neg h2,if_neg h3,if_pos h4] at *;exact e
 by_cases h5:3000<=f.np
 .rw[if_neg h1,if_neg h2,if_neg h3,if_neg h4,if_pos h5] at *;split at e
  .rename_i k id o n a b lim g;by_cases hk:(k=f.np-3000/\0<k)/\a=0/\b=n/\0<=lim/\lim<4611686018427387904
   .simp only[if_pos hk] at e ⊢;split at e
    .rename_i cs hS;by_cases hl:o+n*k<=cs.length
     .simp only[if_pos hl] at e ⊢;cases hs:Ha c k g (chunks k n (cs.drop o)) with
      |none=>rw[hs] at e;cases e
      |some rows=>rw[cF h _ _ _ _ hs];rw[hs] at e;exact e
     .simp only[if_neg hl] at e;cases e
    .cases e
   .simp only[if_neg hk] at e;cases e
  .exact e
  .cases e
 .rw[if_neg h1,if_neg h2,if_neg h3,if_neg h4,if_neg h5] at *;exact e
theorem Nh:∀n (dp:Nat->Option Fn),eK (Bu dp n) (Bu dp (n+1))
 |0,_=>fun _ _ _ _ e=>by cases e
 |n+1,dp=>by
  intro g a S r e;simp only[Bu] at e ⊢;cases hg:dp g with
  |none=>simp[hg] at e
  |some f=>
   simp only[hg] at e ⊢;split at e<;>rename_i hn
   .rw[if_pos hn];exact K7 f (EL (Nh n dp) (Nat.le_succ n) f.body _ _) _ e
   .rw[if_neg hn];exact L1 (Nh n (Ky dp)) f a S r e
theorem Eg(dp:Nat->Option Fn)(n:Nat):∀m,n<=m->eK (Bu dp n) (Bu dp m):=by
 intro m hm
 induction m with
 |zero=>
      have:n=0:=by omega
      subst this;exact fun _ _ _=>H3.refl _
 |succ m ih=>
  rcases Nat.lt_or_ge n (m+1) with h|h
  .exact fun g a S=>(ih (by omega) g a S).trans (Nh m dp g a S)
  .have:n=m+1:=by omega
   subst this;exact fun _ _ _=>H3.refl _
open Classical in
noncomputable def lim{Z:Type}(f:Nat->Option Z):Option Z:=if h:∃r,∃n,f n=some r then some (Classical.choose h) else none
theorem Ge{Z:Type}{f:Nat->Option Z}(hf:∀n m,n<=m->H3 (f n) (f m))(r:Z):lim f=some r<->∃n,f n=some r:=by
 unfold lim;constructor
 .intro h;split at h
  .rename_i hx;injection h with h
   exact h▸Classical.choose_spec hx
  .cases h
 .rintro⟨n,hn⟩;have hx:∃r,∃n,f n=some r:=⟨r,n,hn⟩
  rw[dif_pos hx];obtain⟨m,hm⟩:=Classical.choose_spec hx;have h1:=hf n (max n m) (le_max_left _ _) r hn;have h2:=hf m (max n m) (le_max_right _ _) _ hm;rw[h1] at h2;exact h2.symm
noncomputable def call(dp:Nat->Option Fn):AQ:=fun g a S=>lim fun n=>Bu dp n g a S
noncomputable def BK(call:AQ):C->List D->A1->Option Out
 |.skip,fr,S=>some (.normal,fr,S)
 |.CN ops kill,fr,S=>match GX call fr S ops with
  |some (Au,S')=>some (.normal,B7 Au kill,S')
  |none=>none
 |.BB ops kill,fr,S=>match GX call fr S (Kr ops) with
  |some (Au,S')=>some (.normal,B7 Au kill,S')
  |none=>none
 |.seq a b,fr,S=>match BK call a fr S with
  |some (.normal,Au,S')=>BK call b Au S'
  |r=>r
 |.cond c a b,fr,S=>match av fr c with
  |.b true=>BK call a fr S
  |.b false=>BK call b fr S
  |_=>none
 |.blk id c,fr,S=>match BK call c fr S with
  |some (.exit j,Au,S')=>some (if j=id then .normal else .exit j,Au,S')
  |r=>r
 |.loop kl c,fr,S=>lim fun n=>iter (fun fr S=>BK call c (B7 fr kl) S) n fr S
 |.exit id,fr,S=>some (.exit id,fr,S)
 |.ret,fr,S=>some (.ret,fr,S)
 |.bad,_,_=>none
section
variable {dp:Nat->Option Fn}
theorem M8(g:Nat)(a:List D)(S:A1)(r:D×A1):call dp g a S=some r<->∃n,Bu dp n g a S=some r:=
 Ge (fun n m h=>Eg dp n m h g a S) r
theorem Jc(n:Nat):eK (Bu dp n) (call dp):=fun g a S r h=>(M8 g a S r).2 ⟨n,h⟩
theorem Si{g:Nat}{a:List D}{r:D}(h:A0 (call dp) g a=some r):∃n,A0 (Bu dp n) g a=some r:=by
 unfold A0 at h;split at h
 .rename_i hn;cases hc:call dp g (stripL a) [] with
  |none=>simp[hc] at h
  |some p=>
   obtain⟨n,e⟩:=(M8 _ _ _ _).1 hc;refine⟨n,?_⟩;unfold A0;rw[if_pos hn,e];rw[hc] at h;exact h
 .cases h
theorem ZS{g:Nat}{Gv:Bool}{a:List D}{S:A1}{r:D×A1}(h:Hj (call dp) g Gv a S=some r):∃n,Hj (Bu dp n) g Gv a S=some r:=by
 unfold Hj at *;cases Gv with
 |true=>
  simp only[if_true] at h ⊢;cases hc:A0 (call dp) g a with
  |none=>simp[hc] at h
  |some p=>
   obtain⟨n,e⟩:=Si hc;exact⟨n,by rw[e];rw[hc] at h;exact h⟩
 |false=>simpa using(M8 _ _ _ _).1 (by simpa using h)
theorem wN{fr:List D}{S:A1}{o:R}{r:D×A1}(h:E7 (call dp) fr S o=some r):∃n,E7 (Bu dp n) fr S o=some r:=by
 cases o with
 |call g Gv args=>exact ZS h
 |BL f Gv args=>
  simp only[E7] at *;split at h
  .obtain⟨n,e⟩:=ZS h;exact⟨n,e⟩
  .cases h
 |_=>exact⟨0,h⟩
theorem evI_ex{fr:List D}{S:A1}{o:I}{r:List D×A1}(h:Mv (call dp) fr S o=some r):∃n,Mv (Bu dp n) fr S o=some r:=by
 cases o with
 |op dst gd o=>
  simp only[Mv] at *;split at h
  .cases hc:E7 (call dp) fr S o with
   |none=>simp[hc] at h
   |some p=>
    obtain⟨n,e⟩:=wN hc;exact⟨n,by rw[e];rw[hc] at h;exact h⟩
  .exact⟨0,h⟩
  .cases h
 |fz t=>exact⟨0,h⟩
 |ck t o=>
  simp only[Mv] at *;cases hc:E7 (call dp) fr S o with
  |none=>simp[hc] at h
  |some p=>
   obtain⟨n,e⟩:=wN hc;exact⟨n,by rw[e];rw[hc] at h;exact h⟩
theorem Y0:∀{os:List I} {fr:List D} {S:A1} {r:List D×A1},GX (call dp) fr S os=some r->∃n,GX (Bu dp n) fr S os=some r
 |[],_,_,_,h=>⟨0,h⟩
 |o::os,fr,S,r,h=>by
  simp only[GX] at *;cases hi:Mv (call dp) fr S o with
  |none=>simp[hi] at h
  |some p=>
   rw[hi] at h;obtain⟨n,e⟩:=evI_ex hi;obtain⟨m,e'⟩:=Y0 h;refine⟨max n m,?_⟩;rw[Zs (Eg dp n (max n m) (le_max_left _ _)) _ _ _ _ e];exact JE (Eg dp m (max n m) (le_max_right _ _)) _ _ _ _ e'
theorem jF{f:Nat->List D->A1->Option Out}{g:List D->A1->Option Out}(hf:∀n m,n<=m->∀fr S,H3 (f n fr S) (f m fr S))
  (h:∀fr S r,g fr S=some r->∃n,f n fr S=some r):∀(k:Nat) (fr:List D) (S:A1) (r:Out),iter g k fr S=some r->∃n,iter (f n) k fr S=some r
 |0,_,_,_,e=>by cases e
 |k+1,fr,S,r,e=>by
  simp only[iter] at *;cases hg:g fr S with
  |none=>simp[hg] at e
  |some p=>
   rw[hg] at e;obtain⟨n,hn⟩:=h _ _ _ hg;obtain⟨ex,Au,S'⟩:=p;cases ex with
   |normal=>
    obtain⟨m,hm⟩:=jF hf h k _ _ _ e;refine⟨max n m,?_⟩;rw[hf n (max n m) (le_max_left _ _) _ _ _ hn];exact CZ (hf m (max n m) (le_max_right _ _)) k k (Nat.le_refl _) _ _ _ hm
   |exit i=>exact⟨n,by rw[hn];exact e⟩
   |ret=>exact⟨n,by rw[hn];exact e⟩
theorem LU{n m:Nat}(h:n<=m)(c:C)(fr:List D)(S:A1):H3 (exec (Bu dp n) n c fr S) (exec (Bu dp m) m c fr S):=
 EL (Eg dp n m h) h c fr S
theorem JQ:∀(c:C) (fr:List D) (S:A1) (r:Out),BK (call dp) c fr S=some r->∃n,exec (Bu dp n) n c fr S=some r
 |.skip,_,_,_,h=>⟨0,h⟩
 |.CN ops kill,fr,S,r,h=>by
  simp only[BK,exec] at *;cases hi:GX (call dp) fr S ops with
  |none=>simp[hi] at h
  |some p=>
   obtain⟨n,e⟩:=Y0 hi;exact⟨n,by rw[e];rw[hi] at h;exact h⟩
 |.BB ops kill,fr,S,r,h=>by
  simp only[BK,exec] at *;cases hi:GX (call dp) fr S (Kr ops) with
  |none=>simp[hi] at h
  |some p=>
   obtain⟨n,e⟩:=Y0 hi;exact⟨n,by rw[e];rw[hi] at h;exact h⟩
 |.seq a b,fr,S,r,h=>by
  simp only[BK,exec] at *;cases ha:BK (call dp) a fr S with
  |none=>simp[ha] at h
  |some p=>
   rw[ha] at h;obtain⟨n,e⟩:=JQ a _ _ _ ha;obtain⟨ex,Au,S'⟩:=p;cases ex with
   |normal=>
    obtain⟨m,e'⟩:=JQ b _ _ _ h;refine⟨max n m,?_⟩;rw[LU (le_max_left n m) _ _ _ _ e];exact LU (le_max_right n m) _ _ _ _ e'
   |exit i=>exact⟨n,by rw[e];exact h⟩
   |ret=>exact⟨n,by rw[e];exact h⟩
 |.cond q a b,fr,S,r,h=>by
  simp only[BK,exec] at *;cases hq:av fr q with
  |b y=>
   rw[hq] at h;cases y with
   |true=>exact JQ a _ _ _ h
   |false=>exact JQ b _ _ _ h
  |_=>simp[hq] at h
 |.blk id a,fr,S,r,h=>by
  simp only[BK,exec] at *;cases ha:BK (call dp) a fr S with
  |none=>simp[ha] at h
  |some p=>
   obtain⟨n,e⟩:=JQ a _ _ _ ha;exact⟨n,by rw[e];rw[ha] at h;exact h⟩
 |.loop kl a,fr,S,r,h=>by simp only[BK,exec] at *;obtain⟨k,hk⟩:=(Ge (fun n m hm=>CZ (fun _ _=>H3.refl _) n m hm fr S) r).1 h;obtain⟨n,hn⟩:=jF (f:=fun n fr S=>exec (Bu dp n) n a (B7 fr kl) S) (fun n m hm fr S=>LU hm a (B7 fr kl) S) (fun fr S r=>JQ a (B7 fr kl) S r) k fr S r hk;refine⟨max n k,?_⟩;exact CZ (fun fr S=>LU (le_max_left n k) a (B7 fr kl) S) k (max n k) (le_max_right _ _) _ _ _ hn
 |.exit _,_,_,_,h=>⟨0,h⟩
 |.ret,_,_,_,h=>⟨0,h⟩
 |.bad,_,_,_,h=>by cases h
theorem GM(n:Nat):∀(c:C) (fr:List D) (S:A1),H3 (exec (Bu dp n) n c fr S) (BK (call dp) c fr S)
 |.skip,_,_=>H3.refl _
 |.CN ops kill,fr,S=>by
  intro x e;simp only[exec,BK] at *;cases hi:GX (Bu dp n) fr S ops with
  |none=>simp[hi] at e
  |some p=>rw[JE (Jc n) ops fr S p hi];rw[hi] at e;exact e
 |.BB ops kill,fr,S=>by
  intro x e;simp only[exec,BK] at *;cases hi:GX (Bu dp n) fr S (Kr ops) with
  |none=>simp[hi] at e
  |some p=>rw[JE (Jc n) (Kr ops) fr S p hi];rw[hi] at e;exact e
 |.seq a b,fr,S=>by
  intro x e;simp only[exec,BK] at *;cases ha:exec (Bu dp n) n a fr S with
  |none=>simp[ha] at e
  |some p=>
   rw[GM n a fr S p ha];rw[ha] at e;obtain⟨ex,Au,S'⟩:=p;cases ex with
   |normal=>exact GM n b _ _ _ e
   |exit _=>exact e
   |ret=>exact e
 |.cond q a b,fr,S=>by
  intro x e;simp only[exec,BK] at *;cases hq:av fr q with
  |b y=>
   rw[hq] at e;cases y with
   |true=>exact GM n a _ _ _ e
   |false=>exact GM n b _ _ _ e
  |_=>simp[hq] at e
 |.blk id a,fr,S=>by
  intro x e;simp only[exec,BK] at *;cases ha:exec (Bu dp n) n a fr S with
  |none=>simp[ha] at e
  |some p=>rw[GM n a fr S p ha];rw[ha] at e;exact e
 |.loop kl a,fr,S=>by intro x e;simp only[exec,BK] at *;exact(Ge (fun n m hm=>CZ (fun _ _=>H3.refl _) n m hm fr S) x).2 ⟨n,CZ (fun fr S=>GM n a (B7 fr kl) S) n n (Nat.le_refl _) _ _ _ e⟩
 |.exit _,_,_=>H3.refl _
 |.ret,_,_=>H3.refl _
 |.bad,_,_=>H3.refl _
theorem Option.sj{Z:Type}{x y:Option Z}(h:∀r,x=some r<->y=some r):x=y:=by
 cases hx:x with
 |none=>cases hy:y with
  |none=>rfl
  |some b=>have:=(h b).2 hy;rw[hx] at this;cases this
 |some a=>exact((h a).1 hx).symm
theorem cmp1_ex{g:Nat}{p:List D×List D}{z:Int}(h:Jo (call dp) g p=some z):∃n,Jo (Bu dp n) g p=some z:=by
 unfold Jo at h;cases hc:A0 (call dp) g [.agg p.1,.agg p.2] with
 |none=>rw[hc] at h;cases h
 |some x=>
  obtain⟨n,e⟩:=Si hc;refine⟨n,?_⟩;unfold Jo;rw[e];rw[hc] at h;exact h
theorem iY{g:Nat}:∀{l:List (List D×List D)} {t:List Int},EN (call dp) g l=some t->∃n,EN (Bu dp n) g l=some t
 |[],t,h=>⟨0,h⟩
 |p::l,t,h=>by
  simp only[EN] at h;cases h1:Jo (call dp) g p with
  |none=>rw[h1] at h;cases h
  |some z=>
   cases h2:EN (call dp) g l with
   |none=>rw[h1,h2] at h;cases h
   |some t'=>
    rw[h1,h2] at h;obtain⟨n,e1⟩:=cmp1_ex h1;obtain⟨m,e2⟩:=iY h2;refine⟨max n m,?_⟩;simp only[EN];rw[VD (Eg dp n (max n m) (le_max_left _ _)) _ _ _ e1,Pu (Eg dp m (max n m) (le_max_right _ _)) _ _ _ e2];exact h
theorem vX{k g:Nat}{rows r:List (List D)}(h:Ha (call dp) k g rows=some r):∃n,Ha (Bu dp n) k g rows=some r:=by
 unfold Ha at h;split at h
 .rename_i h0;cases h1:EN (call dp) g (KI rows) with
  |none=>rw[h1] at h;cases h
  |some t=>
   obtain⟨n,e⟩:=iY h1;refine⟨n,?_⟩;unfold Ha;rw[if_pos h0,e];rw[h1] at h;exact h
 .cases h
theorem uB{f:Fn}{args:List D}{S:A1}{r:D×A1}(e:Bb (call dp) f args S=some r):∃n,Bb (Bu dp n) f args S=some r:=by
 unfold Bb at e;by_cases h1:f.np=1001
 .refine⟨0,?_⟩;unfold Bb;rw[if_pos h1] at *;exact e
 by_cases h2:f.np=1002
 .refine⟨0,?_⟩;unfold Bb;rw[if_neg h1,if_pos h2] at *;exact e
 by_cases h3:f.np=1003
 .refine⟨0,?_⟩;unfold Bb;rw[if_neg h1,if_neg h2,if_pos h3] at *;exact e
 by_cases h4:f.np=1004
 .refine⟨0,?_⟩;unfold Bb;rw[if_neg h1,if_neg h2,if_neg h3,if_pos h4] at *;exact e
 by_cases h5:3000<=f.np
 .rw[if_neg h1,if_neg h2,if_neg h3,if_neg h4,if_pos h5] at e;split at e
  .rename_i k id o n a b lim g;by_cases hk:(k=f.np-3000/\0<k)/\a=0/\b=n/\0<=lim/\lim<4611686018427387904
   .simp only[if_pos hk] at e;split at e
    .rename_i cs hS;by_cases hl:o+n*k<=cs.length
     .simp only[if_pos hl] at e;cases hs:Ha (call dp) k g (chunks k n (cs.drop o)) with
      |none=>rw[hs] at e;cases e
      |some rows=>
       obtain⟨m,hm⟩:=vX hs;refine⟨m,?_⟩;unfold Bb;rw[if_neg h1,if_neg h2,if_neg h3,if_neg h4,if_pos h5];simp only[if_pos hk,hS,if_pos hl,hm];rw[hs] at e;exact e
     .simp only[if_neg hl] at e;cases e
    .cases e
   .simp only[if_neg hk] at e;cases e
  .refine⟨0,?_⟩;unfold Bb;rw[if_neg h1,if_neg h2,if_neg h3,if_neg h4,if_pos h5];exact e
  .cases e
 .refine⟨0,?_⟩;unfold Bb;rw[if_neg h1,if_neg h2,if_neg h3,if_neg h4,if_neg h5] at *;exact e
end
section
variable {dp:Nat->Option Fn}
theorem LO(g:Nat)(a:List D)(S:A1):call dp g a S=match dp g with
  |some f=>if a.length=f.np/\f.np<=f.nt then finish f (BK (call dp) f.body (Bm f a) S) else Bb (call (Ky dp)) f a S
  |none=>none:=by
 apply Option.sj;intro r;rw[M8];constructor
 .rintro⟨n,h⟩;cases n with
  |zero=>cases h
  |succ n=>
   simp only[Bu] at h;cases hg:dp g with
   |none=>simp[hg] at h
   |some f=>
    simp only[hg] at h ⊢;split at h<;>rename_i hn
    .rw[if_pos hn];exact K7 f (GM n f.body _ _) _ h
    .rw[if_neg hn];exact L1 (Jc n) f a S r h
 .intro h;cases hg:dp g with
  |none=>simp[hg] at h
  |some f=>
   simp only[hg] at h;split at h<;>rename_i hn
   .cases he:BK (call dp) f.body (Bm f a) S with
    |none=>simp[he,finish] at h
    |some p=>
     obtain⟨n,e⟩:=JQ _ _ _ _ he;refine⟨n+1,?_⟩;simp only[Bu,hg];rw[if_pos hn,e,<-he];exact h
   .obtain⟨n,e⟩:=uB h;refine⟨n+1,?_⟩;simp only[Bu,hg];rw[if_neg hn];exact e
end
section
open Go
structure Gh where
 blk:Nat
 lo:Nat
 hi:Nat
abbrev GD:=Nat->Nat->Prop
def Ts(G:List Gh)(b lo hi cap:Nat):JB->Prop
 |.ro=>True
 |.G4=>cap=0
 |.tok t=>AA G t=some ⟨b,lo,hi⟩
inductive Rel(dp:Nat->Option Fn)(F:GD)(G:List Gh)(w:World):Value->D->Prop
 |top (v:Value):Rel dp F G w v .top
 |b (x:Bool):Rel dp F G w (.bool x) (.b x)
 |i (k:IntKind) (n:Int):Rel dp F G w (.int k n) (.i k n)
 |s (l:List UInt8):Rel dp F G w (.string ⟨l.toArray⟩) (.s l)
 |nil (k:Nat) (o:JB):Rel dp F G w (.slice none 0 0) (.sl k true [] o)
 |sl (k:Nat) (xs:List (List D)) (o:JB) (blk off cap:Nat) (c:Nat->Nat->Value) (hk:∀x∈xs,x.length=k) (Eh:xs.length<=cap)
   (h1:∀(j:Nat) (x:List D) (m:Nat) (d:D),xs[j]? = some x->x[m]? = some d->F blk (off+j*k+m)/\w.cell? ⟨blk,off+j*k+m,none⟩=some (c j m)/\(c j m).oneCell'=true)
   (h2:∀(j:Nat) (x:List D) (m:Nat) (d:D),xs[j]? = some x->x[m]? = some d->Rel dp F G w (c j m) d)
   (ho:Ts G blk (off+xs.length*k) (off+cap*k) cap o):Rel dp F G w (.slice (some ⟨blk,off,none⟩) xs.length cap) (.sl k false xs o)
 |emp (k:Nat) (ad:Addr) (cap:Nat):Rel dp F G w (.slice (some ad) 0 cap) (.sl k false [] .ro)
 |agg (vs:Array Value) (ds:List D) (hl:vs.size=ds.length) (h:∀(j:Nat) (v:Value) (d:D),vs[j]? = some v->ds[j]? = some d->Rel dp F G w v d):Rel dp F G w (.agg vs) (.agg ds)
 |AY (vs:Array Value) (ds:List D) (hl:vs.size=ds.length) (h:∀(j:Nat) (v:Value) (d:D),vs[j]? = some v->ds[j]? = some d->Rel dp F G w v d):Rel dp F G w (.tuple vs) (.AY ds)
 |bx (id o:Nat) (g:Gh) (hg:AA G id=some g):Rel dp F G w (.pointer (some ⟨g.blk,o,none⟩)) (.bx id o)
 |el (cs:List D) (blk base o:Nat) (c:Nat->Value) (h1:∀(m:Nat) (d:D),cs[m]? = some d->F blk (base+m)/\w.cell? ⟨blk,base+m,none⟩=some (c m))
   (h2:∀(m:Nat) (d:D),cs[m]? = some d->Rel dp F G w (c m) d):Rel dp F G w (.pointer (some ⟨blk,base+o,none⟩)) (.el cs o)
 |ar (k id o n cap:Nat) (g:Gh) (hg:AA G id=some g) (hn:n<=cap/\o+cap*k<=g.hi):Rel dp F G w (.slice (some ⟨g.blk,o,none⟩) n cap) (.ar k id o n)
 |KO:Rel dp F G w (.pointer none) .KO
 |Cy:Rel dp F G w (.map none) .Cy
 |mp (id:Nat) (g:Gh) (hg:AA G id=some g):Rel dp F G w (.map (some g.blk)) (.mp id)
 |fn (g:Nat) (f:Fn) (hf:dp g=some f) (vs:Array Value) (ds:List D) (hl:vs.size=ds.length)
   (h:∀(j:Nat) (v:Value) (d:D),vs[j]? = some v->ds[j]? = some d->Rel dp F G w v d):Rel dp F G w (.func (.func f.real) #[] vs) (.fn g ds)
def holds:B9->Prop
 |.box _=>True
 |.map _=>True
 |.tok true=>True
 |_=>False
def KV(dp:Nat->Option Fn)(F:GD)(G:List Gh)(w:World)(g:Gh):B9->Prop
 |.box cs=>∃vs T,w.heap[g.blk]? = some (.cells vs T (0,0))/\(cs.length<=vs.size/\g.hi<=vs.size)/\(∀o,¬F g.blk o)/\(∀v∈vs.toList,v.oneCell'=true)/\∀(m:Nat) (v:Value) (d:D),vs[m]? = some v->cs[m]? = some d->Rel dp F G w v d
 |.tok true=>∃vs T,w.heap[g.blk]? = some (.cells vs T (0,0))/\g.hi<=vs.size/\∀o,g.lo<=o->¬F g.blk o
 |.map es=>∃Bv,w.heap[g.blk]? = some (.map Bv es.length)/\Bv.size=es.length/\∀(j:Nat) (e:MapEntry) (d:D×D),Bv[j]? = some e->es[j]? = some d->e.born=j/\Rel dp F G w e.key d.1/\Rel dp F G w e.val d.2
 |_=>True
def Mx(S:A1)(G:List Gh)(b:Nat):Prop:=∃id e g,AA S id=some e/\holds e/\AA G id=some g/\g.blk=b
def Rg:Option Obj->Bool
 |some (.cells cs _ _)=>cs.toList.map (fun(v:Value)=>match v with | Value.int .u64 n=>some n | _=>none)==(List.range 20).map fun j=>some ((10:Int)^j)
 |_=>false
def KY:Option Obj->Bool
 |some (.cells cs _ (0,0))=>match cs[0]? with
  |some (Value.int .i64 _)=>true
  |_=>false
 |_=>false
def P4:List (Nat×(Option Obj->Bool)):=[(1,Rg),(2,KY)]
def nQ(G:List Gh)(w:World)(S:A1):Prop:=∀q∈P4,q.2 w.heap[q.1]? = true/\q.1<w.heap.size/\¬Mx S G q.1
theorem nQ.O7{G G':List Gh}{w w':World}{S S':A1}(h:nQ G w S)(hh:∀b,b<w.heap.size->¬Mx S G b->w'.heap[b]? = w.heap[b]?)(ho:∀b,Mx S' G' b->Mx S G b\/w.heap.size<=b)(hs:w.heap.size<=w'.heap.size):nQ G' w' S':=by
 intro q hq;obtain⟨h1,h2,h3⟩:=h q hq;refine⟨by rw[hh _ h2 h3];exact h1,by omega,fun hx=>?_⟩;rcases ho _ hx with h4|h4
 .exact h3 h4
 .omega
structure BX(dp:Nat->Option Fn)(F:GD)(G:List Gh)(w:World)(S:A1):Prop where
 len:G.length=S.length
 U1:∀b o,F b o->∃v,w.cell? ⟨b,o,none⟩=some v
 aV:∀id e g,AA S id=some e->AA G id=some g->KV dp F G w g e
 sep:∀i j e e' g g',i≠j->AA S i=some e->AA S j=some e'->holds e->holds e'->AA G i=some g->AA G j=some g'->g.blk≠g'.blk
 YA:nQ G w S
class Ga where
 rel:Nat->Nat->Prop
 refl:∀n,rel n n
 trans:∀{a b c},rel a b->rel b c->rel a c
 succ:∀n,rel n (n+1)
@[reducible] def Ga.mono:Ga:=⟨(· <= ·),Nat.le_refl,le_trans,Nat.le_succ⟩
@[reducible] def Ga.any:Ga:=⟨fun _ _=>True,fun _=>trivial,fun _ _=>trivial,fun _=>trivial⟩
variable [Ga]
structure Ext(F:GD)(G:List Gh)(w:World)(S:A1)(F':GD)(G':List Gh)(w':World)(S':A1):Prop where
 fT:∀b o,F b o->F' b o
 xG:∀id g,AA G id=some g->AA G' id=some g
 cells:∀b o,F b o->w'.cell? ⟨b,o,none⟩=w.cell? ⟨b,o,none⟩
 frame:∀b,b<w.heap.size->¬Mx S G b->w'.heap[b]? = w.heap[b]?
 own:∀b,Mx S' G' b->Mx S G b\/w.heap.size<=b
 oK:∀b o,F' b o->F b o\/Mx S G b\/w.heap.size<=b
 size:w.heap.size<=w'.heap.size
 os:w'.os=w.os
 tape:w'.tape=w.tape/\Ga.rel w.drawn w'.drawn
 output:w'.output=w.output
section
variable {dp:Nat->Option Fn}{F F':GD}{G G':List Gh}{w w':World}{S S':A1}
theorem AJ{Z:Type}:∀{l:List Z} {id:Nat} {x:Z},AA l id=some x->id<l.length
 |[],_,_,h=>by cases h
 |e::l,id,x,h=>by
  simp only[AA] at h;split at h
  .rename_i he;simp;omega
  .have:=AJ h;simp;omega
theorem E6{Z:Type}:∀(l:List Z) (id:Nat) (x:Z),(sset l id x).length=l.length
 |[],_,_=>rfl
 |e::l,id,x=>by
  simp only[sset];split
  .rfl
  .simp[E6 l id x]
theorem AR{Z:Type}:∀(l:List Z) (id j:Nat) (x:Z),AA (sset l id x) j=if j=id/\id<l.length then some x else AA l j
 |[],id,j,x=>by simp[sset,AA]
 |e::l,id,j,x=>by
  simp only[sset];by_cases h:id=l.length
  .subst h;by_cases hj:j=l.length
   .subst hj;simp[AA]
   .simp[AA,hj]
  .rw[if_neg h];simp only[AA,E6];by_cases hj:j=l.length
   .subst hj;rw[if_pos rfl,if_pos rfl,if_neg (by omega)]
   .rw[if_neg hj,if_neg hj,AR l id j x];by_cases hji:j=id
    .subst hji;by_cases hl:j<l.length
     .rw[if_pos ⟨rfl,hl⟩,if_pos ⟨rfl,by simp;omega⟩]
     .rw[if_neg (by omega),if_neg (by simp;omega)]
    .rw[if_neg (by omega),if_neg (by omega)]
theorem BM{Z:Type}(e:Z)(l:List Z)(id:Nat)(h:id<l.length):AA (e::l) id=AA l id:=by simp only[AA];rw[if_neg (by omega)]
theorem Aj{Z:Type}(e:Z)(l:List Z):AA (e::l) l.length=some e:=by simp[AA]
theorem CM:∀(fr:List D) (n m:Nat) (v:D),Ah (Bc fr n v) m=if m=n/\n<fr.length then v else Ah fr m
 |[],n,m,v=>by simp[Bc,Ah]
 |d::l,0,0,v=>by simp[Bc,Ah]
 |d::l,0,m+1,v=>by simp[Bc,Ah]
 |d::l,n+1,0,v=>by simp[Bc,Ah]
 |d::l,n+1,m+1,v=>by simp only[Bc,Ah,CM l n m v];simp
theorem C6:∀(fr:List D) (n:Nat) (v:D),(Bc fr n v).length=fr.length
 |[],_,_=>rfl
 |_::_,0,_=>rfl
 |_::l,n+1,v=>by simp[Bc,C6 l n v]
theorem OV:∀(fr:List D) (n:Nat),fr.length<=n->Ah fr n=.top
 |[],_,_=>rfl
 |d::l,0,h=>by simp at h
 |d::l,n+1,h=>OV l n (by simpa using h)
theorem PD:∀(fr:List D) (n:Nat) (d:D),fr[n]? = some d->Ah fr n=d
 |[],_,_,h=>by simp at h
 |x::l,0,d,h=>by simpa[Ah] using h
 |x::l,n+1,d,h=>PD l n d (by simpa using h)
theorem Rel.mono{v:Value}{d:D}(h:Rel dp F G w v d)(hF:∀b o,F b o->F' b o)(hG:∀id g,AA G id=some g->AA G' id=some g)
  (hw:∀b o,F b o->w'.cell? ⟨b,o,none⟩=w.cell? ⟨b,o,none⟩):Rel dp F' G' w' v d:=by
 induction h with
 |top v=>exact .top v
 |b x=>exact .b x
 |i k n=>exact .i k n
 |s l=>exact .s l
 |nil k o=>exact .nil k o
 |sl k xs o blk off cap c hk Eh h1 h2 ho ih=>
  refine .sl k xs o blk off cap c hk Eh (fun j x m d hx hd=>?_) ih ?_
  .obtain⟨a,b,e⟩:=h1 j x m d hx hd;exact⟨hF _ _ a,(hw _ _ a).trans b,e⟩
  .cases o with
   |ro=>trivial
   |G4=>exact ho
   |tok t=>exact hG _ _ ho
 |emp k ad cap=>exact .emp k ad cap
 |agg vs ds hl h ih=>exact .agg vs ds hl ih
 |AY vs ds hl h ih=>exact .AY vs ds hl ih
 |bx id o g hg=>exact .bx id o g (hG _ _ hg)
 |el cs blk base o c h1 h2 ih=>
  refine .el cs blk base o c (fun m d hd=>?_) ih;obtain⟨a,b⟩:=h1 m d hd;exact⟨hF _ _ a,(hw _ _ a).trans b⟩
 |ar k id o n cap g hg hn=>exact .ar k id o n cap g (hG _ _ hg) hn
 |KO=>exact .KO
 |Cy=>exact .Cy
 |mp id g hg=>exact .mp id g (hG _ _ hg)
 |fn g f hf vs ds hl h ih=>exact .fn g f hf vs ds hl ih
theorem Rel.ext{v:Value}{d:D}(h:Rel dp F G w v d)(e:Ext F G w S F' G' w' S'):Rel dp F' G' w' v d:=h.mono e.fT e.xG e.cells
theorem HD:∀{l:List D} {j:Nat} {d:D},A9 l=true->l[j]? = some d->AG d=true
 |[],_,_,_,h=>by simp at h
 |x::l,0,d,hn,h=>by simp only[A9,and_eq_true] at hn;simp at h;subst h;exact hn.1
 |x::l,j+1,d,hn,h=>by simp only[A9,and_eq_true] at hn;exact HD hn.2 (by simpa using h)
theorem QQ:∀{l:List (List D)} {j:Nat} {x:List D},Bo l=true->l[j]? = some x->A9 x=true
 |[],_,_,_,h=>by simp at h
 |x::l,0,d,hn,h=>by simp only[Bo,and_eq_true] at hn;simp at h;subst h;exact hn.1
 |x::l,j+1,d,hn,h=>by simp only[Bo,and_eq_true] at hn;exact QQ hn.2 (by simpa using h)
theorem Rel.plain{v:Value}{d:D}(h:Rel dp F G w v d):AG d=true->∀G',Rel dp F G' w v d:=by
 induction h with
 |top v=>exact fun _ _=>.top v
 |b x=>exact fun _ _=>.b x
 |i k n=>exact fun _ _=>.i k n
 |s l=>exact fun _ _=>.s l
 |nil k o=>exact fun _ _=>.nil k o
 |sl k xs o blk off cap c hk Eh h1 h2 ho ih=>
  intro hn G';simp only[AG,and_eq_true] at hn;refine .sl k xs o blk off cap c hk Eh h1 (fun j x m d hx hd=>ih j x m d hx hd (HD (QQ hn.2 hx) hd) G') ?_;cases o with
  |ro=>trivial
  |G4=>exact ho
  |tok t=>simp at hn
 |emp k ad cap=>exact fun _ _=>.emp k ad cap
 |agg vs ds hl h ih=>exact fun hn G'=>.agg vs ds hl fun j v d hv hd=>ih j v d hv hd (HD (by simpa only[AG] using hn) hd) G'
 |AY vs ds hl h ih=>exact fun hn G'=>.AY vs ds hl fun j v d hv hd=>ih j v d hv hd (HD (by simpa only[AG] using hn) hd) G'
 |bx id o g hg=>exact fun hn=>by simp[AG] at hn
 |el cs blk base o c h1 h2 ih=>exact fun hn=>by simp[AG] at hn
 |ar k id o n cap g hg hn=>exact fun hn=>by simp[AG] at hn
 |KO=>exact fun _ _=>.KO
 |Cy=>exact fun _ _=>.Cy
 |mp id g hg=>exact fun hn=>by simp[AG] at hn
 |fn g f hf vs ds hl h ih=>exact fun hn G'=>.fn g f hf vs ds hl fun j v d hv hd=>ih j v d hv hd (HD (by simpa only[AG] using hn) hd) G'
theorem Rel.Lx{v:Value}{d:D}(h:Rel dp F G w v d):Rel dp F G w v (Lx d):=by
 cases h with
 |nil k o=>exact .nil k .ro
 |emp k ad cap=>exact .emp k ad cap
 |sl k xs o blk off cap c hk Eh h1 h2 ho=>exact .sl k xs .ro blk off cap c hk Eh h1 h2 trivial
 |top v=>exact .top v
 |b x=>exact .b x
 |i k n=>exact .i k n
 |s l=>exact .s l
 |agg vs ds hl h=>exact .agg vs ds hl h
 |AY vs ds hl h=>exact .AY vs ds hl h
 |bx id o g hg=>exact .bx id o g hg
 |el cs blk base o c h1 h2=>exact .el cs blk base o c h1 h2
 |ar k id o n cap g hg hn=>exact .ar k id o n cap g hg hn
 |KO=>exact .KO
 |Cy=>exact .Cy
 |mp id g hg=>exact .mp id g hg
 |fn g f hf vs ds hl h=>exact .fn g f hf vs ds hl h
theorem QV:∀{l:List D} {j:Nat} {d:D},(EW l)[j]? = some d->∃e,l[j]? = some e/\d=Lx e
 |[],_,_,h=>by simp[EW] at h
 |x::l,0,d,h=>⟨x,rfl,by simpa[EW] using h.symm⟩
 |x::l,j+1,d,h=>by obtain⟨e,a,b⟩:=QV (l:=l) (j:=j) (by simpa[EW] using h);exact⟨e,by simpa using a,b⟩
theorem M5:∀l:List D,(EW l).length=l.length
 |[]=>rfl
 |_::l=>by simp[EW,M5 l]
theorem O0:∀{l:List D} {j:Nat} {d:D},(stripL l)[j]? = some d->∃e,l[j]? = some e/\d=strip e
 |[],_,_,h=>by simp[stripL] at h
 |x::l,0,d,h=>⟨x,rfl,by simpa[stripL] using h.symm⟩
 |x::l,j+1,d,h=>by obtain⟨e,a,b⟩:=O0 (l:=l) (j:=j) (by simpa[stripL] using h);exact⟨e,by simpa using a,b⟩
theorem KG:∀l:List D,(stripL l).length=l.length
 |[]=>rfl
 |_::l=>by simp[stripL,KG l]
theorem Rel.strip{v:Value}{d:D}(h:Rel dp F G w v d):Rel dp F G w v (strip d):=by
 cases h with
 |agg vs ds hl h=>
  refine .agg vs _ (by rw[M5];exact hl) fun j v d hv hd=>?_;obtain⟨e,he,rfl⟩:=QV hd;exact(h j v e hv he).Lx
 |nil k o=>exact .nil k .ro
 |emp k ad cap=>exact .emp k ad cap
 |sl k xs o blk off cap c hk Eh h1 h2 ho=>exact .sl k xs .ro blk off cap c hk Eh h1 h2 trivial
 |top v=>exact .top v
 |b x=>exact .b x
 |i k n=>exact .i k n
 |s l=>exact .s l
 |AY vs ds hl h=>exact .AY vs ds hl h
 |bx id o g hg=>exact .bx id o g hg
 |el cs blk base o c h1 h2=>exact .el cs blk base o c h1 h2
 |ar k id o n cap g hg hn=>exact .ar k id o n cap g hg hn
 |KO=>exact .KO
 |Cy=>exact .Cy
 |mp id g hg=>exact .mp id g hg
 |fn g f hf vs ds hl h=>exact .fn g f hf vs ds hl h
theorem Rel.Ae{v:Value}{d:D}(h:Rel dp F G w v d):Rel dp F G w v (Ae d):=by
 cases h with
 |AY vs ds hl h=>
  refine .AY vs _ (by rw[KG];exact hl) fun j v d hv hd=>?_;obtain⟨e,he,rfl⟩:=O0 hd;exact(h j v e hv he).strip
 |agg vs ds hl h=>exact(Rel.agg vs ds hl h).strip
 |nil k o=>exact .nil k .ro
 |emp k ad cap=>exact .emp k ad cap
 |sl k xs o blk off cap c hk Eh h1 h2 ho=>exact .sl k xs .ro blk off cap c hk Eh h1 h2 trivial
 |top v=>exact .top v
 |b x=>exact .b x
 |i k n=>exact .i k n
 |s l=>exact .s l
 |bx id o g hg=>exact .bx id o g hg
 |el cs blk base o c h1 h2=>exact .el cs blk base o c h1 h2
 |ar k id o n cap g hg hn=>exact .ar k id o n cap g hg hn
 |KO=>exact .KO
 |Cy=>exact .Cy
 |mp id g hg=>exact .mp id g hg
 |fn g f hf vs ds hl h=>exact .fn g f hf vs ds hl h
theorem Ext.refl(F:GD)(G:List Gh)(w:World)(S:A1):Ext F G w S F G w S:=
 ⟨fun _ _ h=>h,fun _ _ h=>h,fun _ _ _=>rfl,fun _ _ _=>rfl,fun _ h=>.inl h,fun _ _ h=>.inl h,Nat.le_refl _,rfl,⟨rfl,Ga.refl _⟩,rfl⟩
theorem Ext.trans{F1 F2 F3:GD}{G1 G2 G3:List Gh}{w1 w2 w3:World}{S1 S2 S3:A1}(h:Ext F1 G1 w1 S1 F2 G2 w2 S2)(k:Ext F2 G2 w2 S2 F3 G3 w3 S3) :
  Ext F1 G1 w1 S1 F3 G3 w3 S3 where
 fT b o x:=k.fT b o (h.fT b o x)
 xG id g x:=k.xG id g (h.xG id g x)
 cells b o x:=(k.cells b o (h.fT b o x)).trans (h.cells b o x)
 frame b hb hn:=by
  rw[k.frame b (Nat.lt_of_lt_of_le hb h.size) fun hx=>?_]
  .exact h.frame b hb hn
  .rcases h.own b hx with hx|hx
   .exact hn hx
   .omega
 own b hx:=by
  rcases k.own b hx with hx|hx
  .exact h.own b hx
  .have:=h.size;exact .inr (by omega)
 oK b o hx:=by
  rcases k.oK b o hx with hx|hx|hx
  .exact h.oK b o hx
  .exact .inr (h.own b hx)
  .have:=h.size;exact .inr (.inr (by omega))
 size:=le_trans h.size k.size
 os:=k.os.trans h.os
 tape:=⟨k.tape.1.trans h.tape.1,Ga.trans h.tape.2 k.tape.2⟩
 output:=k.output.trans h.output
end
end
section
open Go
variable [Ga]
def mV1:Value->D->Bool
 |_,.top=>true
 |.int k n,.i k' m=>decide (k=k')&&n==m
 |.bool a,.b c=>a==c
 |.string s,.s l=>s.data.toList==l
 |.slice none 0 0,.sl _ true [] _=>true
 |.map none,.Cy=>true
 |.pointer none,.KO=>true
 |_,_=>false
def nT:List Value->List D->Bool
 |[],[]=>true
 |v::l,d::m=>mV1 v d&&nT l m
 |_,_=>false
def mV:Value->D->Bool
 |.agg vs,.agg ds=>nT vs.toList ds
 |v,d=>mV1 v d
section
variable (P:Program)(dp:Nat->Option Fn)
def mF(f:FuncId)(g:Nat):Bool:=match dp g with
 |some x=>x.real==f
 |none=>false
def mA:Operand->A->Bool
 |.tmp t,.t n=>t==n
 |.const v,.c d=>mV v d
 |.func f,.c (.fn g [])=>mF dp f g
 |_,.c .top=>true
 |_,_=>false
def UO:List Operand->List A->Bool
 |[],[]=>true
 |x::l,y::m=>mA dp x y&&UO l m
 |_,_=>false
def mAo:Option Operand->Option A->Bool
 |none,none=>true
 |some x,some y=>mA dp x y
 |_,_=>false
def mT(t:TypeId)(k:Nat)(g:Bool):Bool:=
 (match P.info? t with|some i=>i.size==k|none=>false) &&
 (match P.underlying t with
 |some (.struct _)=>g
 |some (.array _ _)=>g
 |some _=>!g&&k==1
 |none=>false)
def jw(t:TypeId)(k:Nat):Bool:=match P.info? t with|some i=>i.size==k|none=>false
def mZ(t:TypeId)(z:List D):Bool:=match P.info? t with
 |some i=>match i.zero with
  |some v=>nT v.cells.toList z&&v.cells.toList.all Value.oneCell'
  |none=>false
 |none=>false
def mZ1(t:TypeId)(z:D):Bool:=match P.info? t with
 |some i=>match i.zero with
  |some v=>mV v z
  |none=>false
 |none=>false
def mU(t:TypeId)(p:TypeDesc->Bool):Bool:=match P.underlying t with|some d=>p d|none=>false
def MX(k:Nat):TypeDesc->Bool
 |.slice e=>jw P e k
 |_=>false
def isString:TypeDesc->Bool
 |.string=>true
 |_=>false
def lU(t:TypeId):SK->Bool
 |.i=>mU P t fun d=>match d with | .int _=>true | _=>false
 |.b=>mU P t fun d=>match d with | .bool=>true | _=>false
 |.s=>mU P t fun d=>match d with | .string=>true | _=>false
def ED:List Field->Nat->List SK->Bool
 |[],_,[]=>true
 |f::l,n,k::ks=>f.name != "_" && lU P f.type k&&jw P f.type 1&&f.offset==n&&ED l (n+1) ks
 |_,_,_=>false
def Q6(t:TypeId)(ks:List SK):Bool:=match P.underlying t with
 |some (.struct fs)=>!P.stoodInHeld t && !P.eqGuardType P.depth t&&ED P fs.toList 0 ks
 |some (.array n e)=>n==2 && !P.eqGuardType P.depth t&&ks.length==n&&ks.all (lU P e)&&jw P e 1
 |_=>false
def mQ(t:TypeId):Q->Bool
 |.num=>true
 |.str=>true
 |.bool=>mU P t fun d=>match d with | .bool=>true | _=>false
 |.agg ks=>Q6 P t ks
 |.sl=>mU P t fun d=>match d with | .slice _=>true | _=>false
 |.map=>mU P t fun d=>match d with | .map _ _=>true | _=>false
def UQ(t:TypeId):KK->Bool
 |.one k=>lU P t k
 |.agg ks=>Q6 P t ks
def Ni(places:List (Nat×TypeId)):List (Nat×Operand)->List (Nat×Nat×Bool×A)->Bool
 |[],[]=>true
 |(i,x)::l,(o,k,g,y)::m=>(match places[i]? with | some (off,t)=>off==o&&mT P t k g | none=>false)&&mA dp x y&&Ni places l m
 |_,_=>false
def LP(k:Nat)(g:Bool):Nat->List (Nat×Operand)->List A->Bool
 |_,[],[]=>true
 |n,(i,x)::l,y::m=>i==n&&mA dp x y&&LP k g (n+1) l m
 |_,_,_=>false
def mR(
    o:Op):R->Bool
 |.mv y=>match o with
  |.move x=>mA dp x y
  |.assign x=>mA dp x y
  |_=>false
 |.Et y=>match o with
  |.nilCheck x=>mA dp x y
  |_=>false
 |.pick c a b=>match o with
  |.pick c' a' b'=>mA dp c' c&&mA dp a' a&&mA dp b' b
  |_=>false
 |.alloc z=>match o with
  |.alloc t=>mZ P t z
  |_=>false
 |.box k g y=>match o with
  |.box t x=>mT P t k g&&mA dp x y
  |_=>false
 |.CT z ps=>match o with
  |.build t parts=>mZ P t z&&(match P.underlying t with
   |some (.struct fs)=>fs.toList.all (fun f=>(P.info? f.type).isSome)&&Ni P dp (fs.toList.map fun f=>(f.offset,f.type)) parts.toList ps
   |some (.array n e)=>(match P.info? e with | some i=>Ni P dp ((List.range n).map fun j=>(j*i.size,e)) parts.toList ps | none=>false)
   |_=>false)
  |_=>false
 |.EZ k g _ ys=>match o with
  |.buildSlice t len parts=>(match P.underlying t with
   |some (.slice e)=>mT P e k g&&decide (0<k)&&decide (k<=4096)&&len==ys.length&&decide (len<=1024)&&(match P.info? e with | some i=>(match i.zero with | some v=>v.cells.size==k | none=>false) | none=>false)&&LP dp k g 0 parts.toList ys
   |_=>false)
  |_=>false
 |.xD k g ys=>match o with
  |.buildSlice t len parts=>(match P.underlying t with
   |some (.slice e)=>mT P e k g&&decide (0<k)&&decide (k<=4096)&&len==ys.length&&decide (len<=1024)&&(match P.info? e with | some i=>(match i.zero with | some v=>v.cells.size==k | none=>false) | none=>false)&&LP dp k g 0 parts.toList ys
   |_=>false)
  |_=>false
 |.ld k g y=>match o with
  |.load t x=>mT P t k g&&mA dp x y
  |_=>false
 |.st k g y u=>match o with
  |.store t x v=>mT P t k g&&mA dp x y&&mA dp v u
  |_=>false
 |.bin op q y z=>match o with
  |.binOp op' t x v _=>decide (op=op')&&mQ P t q&&mA dp x y&&mA dp v z
  |_=>false
 |.un op y=>match o with
  |.unOp op' _ x=>decide (op=op')&&mA dp x y
  |_=>false
 |.conv k y=>match o with
  |.convert s d x=>(P.underlying s).isSome&&mU P d (fun d=>match d with | .int k'=>decide (k=k') | _=>false)&&mA dp x y
  |_=>false
 |.KP g ys=>match o with
  |.makeFunc (.func f) first captured=>first.isEmpty&&mF dp f g&&UO dp captured.toList ys
  |_=>false
 |.Hy=>match o with
  |.makeMap _ none=>true
  |_=>false
 |.Lo k _ z y=>match o with
  |.makeSlice t x c=>(match P.underlying t with
   |some (.slice e)=>jw P e k&&mZ P e z&&z.length==k&&decide (0<k)&&(match P.info? e with | some i=>decide (i.bytes<=65536) | none=>false)
   |_=>false)&&mA dp x y&&mA dp c y
  |_=>false
 |.Ty k y lo hi=>match o with
  |.slice t x l h none=>mU P t (MX P k)&&mA dp x y&&mAo dp l lo&&mAo dp h hi
  |_=>false
 |.Tz y lo hi=>match o with
  |.slice t x l h none=>mU P t isString&&mA dp x y&&mAo dp l lo&&mAo dp h hi
  |_=>false
 |.fa off y=>match o with
  |.fieldAddr t x j=>(match P.underlying t with
   |some (.struct fs)=>(match fs[j]? with | some f=>f.offset==off&&(match P.info? f.type with | some i=>i.size != 0 | none=>false) | none=>false)
   |_=>false)&&mA dp x y
  |_=>false
 |.Wy off k g y=>match o with
  |.field t x j=>(match P.underlying t with
   |some (.struct fs)=>(match fs[j]? with | some f=>f.offset==off&&mT P f.type k g | none=>false)
   |_=>false)&&mA dp x y
  |_=>false
 |.ia k y j=>match o with
  |.indexAddr t x i=>mU P t (MX P k)&&mA dp x y&&mA dp i j
  |_=>false
 |.pA n k y j=>match o with
  |.indexAddr t x i=>mU P t (fun d=>match d with | .array m e=>m==n&&jw P e k | _=>false)&&mA dp x y&&mA dp i j
  |_=>false
 |.pB y j=>match o with
  |.index t x i=>mU P t isString&&mA dp x y&&mA dp i j
  |_=>false
 |.lk kk ok z y key=>match o with
  |.lookup t x i ok'=>ok==ok'&&(match P.underlying t with | some (.map kt et)=>UQ P kt kk&&mZ1 P et z | _=>false)&&mA dp x y&&mA dp i key
  |_=>false
 |.mu kk y key v=>match o with
  |.mapUpdate t x i u=>(match P.underlying t with | some (.map kt _)=>UQ P kt kk | _=>false)&&mA dp x y&&mA dp i key&&mA dp u v
  |.insert t x i u=>(match P.underlying t with | some (.map kt _)=>UQ P kt kk | _=>false)&&mA dp x y&&mA dp i key&&mA dp u v
  |_=>false
 |.U0 kk z y key=>match o with
  |.mapEntry t x i=>(match P.underlying t with | some (.map kt et)=>UQ P kt kk&&mZ1 P et z | _=>false)&&mA dp x y&&mA dp i key
  |_=>false
 |.xE y j v=>match o with
  |.entryStore _ x i u=>mA dp x y&&mA dp i j&&mA dp u v
  |_=>false
 |.ext y j=>match o with
  |.extract x i=>i==j&&mA dp x y
  |_=>false
 |.len str y=>match o with
  |.call c=>(match c.callee with | .builtin .len=>true | _=>false)&&(match c.argTypes.toList with | t::_=>mU P t (fun d=>match d with | .slice _=>!str | .string=>str | _=>false) | _=>false)&&UO dp c.args.toList [y]
  |_=>false
 |.app k _ y z=>match o with
  |.call c=>(match c.callee with | .builtin .append=>true | _=>false)&&(match c.argTypes.toList with
    |[t,u]=>(match P.underlying t with
     |some (.slice e)=>jw P e k&&decide (0<k)&&(match P.info? e with | some i=>decide (i.bytes<=65536)&&(match i.zero with | some v=>v.cells.size==k&&v.cells.toList.all Value.oneCell' | none=>false) | none=>false)
     |_=>false)&&mU P u (fun d=>match d with | .slice _=>true | _=>false)
    |_=>false)&&UO dp c.args.toList [y,z]
  |_=>false
 |.mx y z=>match o with
  |.call c=>(match c.callee with | .builtin .max=>true | _=>false)&&UO dp c.args.toList [y,z]
  |_=>false
 |.mn y z=>match o with
  |.call c=>(match c.callee with | .builtin .min=>true | _=>false)&&UO dp c.args.toList [y,z]
  |_=>false
 |.xF k z y=>match o with
  |.call c=>(match c.callee with | .builtin .clear=>true | _=>false)&&(match c.argTypes.toList with
    |[t]=>(match P.underlying t with | some (.slice e)=>jw P e k&&mZ P e z | _=>false)
    |_=>false)&&UO dp c.args.toList [y]
  |_=>false
 |.call g _ ys=>match o with
  |.call c=>(match c.callee with | .value (.func f)=>mF dp f g | _=>false)&&UO dp c.args.toList ys
  |_=>false
 |.BL y _ ys=>match o with
  |.call c=>(match c.callee with | .value x=>mA dp x y | _=>false)&&UO dp c.args.toList ys
  |_=>false
 |.EN y z=>match o with
  |.call c=>(match c.callee with
   |.value (.func f)=>(match P.funcs[f]? with | some fn=>fn.name == "internal/bytealg.abigen_runtime_cmpstring" && fn.body.isNone&&(Extern.findNext fn).isNone|none=>false)
   |_=>false)&&UO dp c.args.toList [y,z]
  |_=>false
end
section
variable {P:Program}{dp:Nat->Option Fn}{F F':GD}{G G':List Gh}{w w':World}{S S':A1}
theorem RF{v:Value}{d:D}(h:mV1 v d=true):Rel dp F G w v d:=by
 unfold mV1 at h;split at h
 .exact .top _
 .simp only[and_eq_true,decide_eq_true_eq,beq_iff_eq] at h;obtain⟨rfl,rfl⟩:=h;exact .i _ _
 .simp only[beq_iff_eq] at h;subst h;exact .b _
 .rename_i s l;simp only[beq_iff_eq] at h;subst h;exact .s _
 .exact .nil _ _
 .exact .Cy
 .exact .KO
 .cases h
theorem Rc:∀{vs:List Value} {ds:List D} {j:Nat} {v:Value} {d:D},nT vs ds=true->vs[j]? = some v->ds[j]? = some d->mV1 v d=true
 |[],[],_,_,_,_,h,_=>by simp at h
 |[],_::_,_,_,_,h,_,_=>by simp[nT] at h
 |_::_,[],_,_,_,h,_,_=>by simp[nT] at h
 |x::l,y::m,0,v,d,h,hv,hd=>by simp only[nT,and_eq_true] at h;simp at hv hd;subst hv hd;exact h.1
 |x::l,y::m,j+1,v,d,h,hv,hd=>by simp only[nT,and_eq_true] at h;exact Rc h.2 (by simpa using hv) (by simpa using hd)
theorem LL:∀{vs:List Value} {ds:List D},nT vs ds=true->vs.length=ds.length
 |[],[],_=>rfl
 |[],_::_,h=>by simp[nT] at h
 |_::_,[],h=>by simp[nT] at h
 |_::l,_::m,h=>by simp only[nT,and_eq_true] at h;simp[LL h.2]
theorem vF{v:Value}{d:D}(h:mV v d=true):Rel dp F G w v d:=by
 unfold mV at h;split at h
 .rename_i vs ds;refine .agg vs ds (by simpa using LL h) fun j v d hv hd=>RF (Rc h ?_ hd);simpa using hv
 .exact RF h
structure Fr(dp:Nat->Option Fn)(F:GD)(G:List Gh)(w:World)(a:Act)(fr:List D):Prop where
 len:fr.length=a.tmps.size
 rel:∀t,Rel dp F G w (a.tmps.getD t undef) (Ah fr t)
theorem Fr.ext{a:Act}{fr:List D}(h:Fr dp F G w a fr)(e:Ext F G w S F' G' w' S'):Fr dp F' G' w' a fr:=⟨h.len,fun t=>(h.rel t).ext e⟩
theorem Fr.eval{a:Act}{fr:List D}(h:Fr dp F G w a fr){x:Operand}{y:A}(hm:mA dp x y=true):Rel dp F G w (a.eval x) (av fr y):=by
 unfold mA at hm;split at hm
 .rename_i t n;simp only[beq_iff_eq] at hm;subst hm;exact h.rel t
 .exact vF hm
 .rename_i f g;unfold mF at hm;split at hm
  .rename_i x hx;simp only[beq_iff_eq] at hm;subst hm;exact .fn g x hx #[] [] rfl (fun j v d hv=>by simp at hv)
  .cases hm
 .exact .top _
 .cases hm
theorem Fr.PA{a:Act}{fr:List D}(h:Fr dp F G w a fr):∀{xs:List Operand} {ys:List A},UO dp xs ys=true ->
  xs.length=ys.length/\(OH fr ys).length=ys.length/\∀(j:Nat) (v:Value) (d:D),(xs.map a.eval)[j]? = some v->(OH fr ys)[j]? = some d->Rel dp F G w v d
 |[],[],_=>⟨rfl,rfl,fun j v d hv=>by simp at hv⟩
 |[],_::_,hm=>by simp[UO] at hm
 |_::_,[],hm=>by simp[UO] at hm
 |x::l,y::m,hm=>by
  simp only[UO,and_eq_true] at hm;obtain⟨h1,h2,h3⟩:=h.PA hm.2;refine⟨by simp[h1],by simp[OH,h2],fun j v d hv hd=>?_⟩;cases j with
  |zero=>
   simp[OH] at hv hd;subst hv hd;exact h.eval hm.1
  |succ j=>exact h3 j v d (by simpa using hv) (by simpa[OH] using hd)
theorem Fr.put{a:Act}{fr:List D}(h:Fr dp F G w a fr)(t:Option Nat){v:Value}{d:D}(hv:Rel dp F G w v d):Fr dp F G w (a.put t v) (GW fr t d):=by
 cases t with
 |none=>exact h
 |some t=>
  refine⟨by simp[GW,C6,Act.put,h.len],fun u=>?_⟩;simp only[GW,CM,Act.put];by_cases hu:u=t/\t<fr.length
  .obtain⟨rfl,hu⟩:=hu;rw[if_pos ⟨rfl,hu⟩];rw[h.len] at hu;simpa[getD,hu] using hv
  .rw[if_neg hu];have:=h.rel u;by_cases Rn:u=t
   .subst Rn;have Ap:¬u<a.tmps.size:=by rw[<-h.len];omega
    simpa[getD,Ap] using this
   .have e:(a.tmps.setIfInBounds t v).getD u undef=a.tmps.getD u undef:=by simp only[Array.getD_eq_getD_getElem?];rw[Array.getElem?_setIfInBounds_ne (Ne.symm Rn)]
    rw[e];exact this
theorem Fr.kill1{a:Act}{fr:List D}(h:Fr dp F G w a fr)(t:Nat):Fr dp F G w a (Bc fr t .top):=by
 refine⟨by simp[C6,h.len],fun u=>?_⟩;rw[CM];split
 .exact .top _
 .exact h.rel u
theorem Fr.kill{a:Act}{fr:List D}(h:Fr dp F G w a fr):∀l:List Nat,Fr dp F G w a (B7 fr l):=by
 intro l
 induction l generalizing fr with
 |nil=>exact h
 |cons t l ih=>exact ih (h.kill1 t)
end
end
section
open Go
variable [Ga]
section
variable {P:Program}{dp:Nat->Option Fn}{F F':GD}{G G':List Gh}{w w':World}{S S':A1}{a:Act}{fr:List D}{o:Oper}{d:D}
def Qe(P:Program)(dp:Nat->Option Fn)(F:GD)(G:List Gh)(w:World)(a:Act)(o:Oper)(d:D):Prop:=
 ∃v,(execOp a.eval o).run P w=.ok (.value v) w/\Rel dp F G w v d
theorem pur_mv{y:A}(hm:mR P dp o.op (.mv y)=true)(hf:Fr dp F G w a fr):Qe P dp F G w a o (av fr y):=by
 simp only[mR] at hm;split at hm
 .rename_i x ho;exact⟨a.eval x,by simp only[execOp,ho,Sem.run_pure],hf.eval hm⟩
 .rename_i x ho;exact⟨a.eval x,by simp only[execOp,ho,Sem.run_pure],hf.eval hm⟩
 .cases hm
theorem PR{y:A}(hm:mR P dp o.op (.Et y)=true)(hf:Fr dp F G w a fr)
  (he:(match av fr y with|.bx _ _=>true|.el _ _=>true|.fn _ _=>true|_=>false)=true):Qe P dp F G w a o (av fr y):=by
 simp only[mR] at hm;split at hm
 .rename_i x ho;have hr:=hf.eval hm;refine⟨a.eval x,?_,hr⟩;simp only[execOp,ho];generalize a.eval x=v at hr;generalize av fr y=e at hr he;cases hr<;>simp at he<;>simp
 .cases hm
theorem rH{c x y:A}{t:Bool}(hm:mR P dp o.op (.pick c x y)=true)(hf:Fr dp F G w a fr)(he:av fr c=.b t) :
  Qe P dp F G w a o (if t then av fr x else av fr y):=by
 simp only[mR] at hm;split at hm
 .rename_i c' x' y' ho;simp only[and_eq_true] at hm;obtain⟨⟨h1,h2⟩,h3⟩:=hm;have hc:=hf.eval h1;rw[he] at hc;generalize hv:a.eval c'=v at hc;cases hc;refine⟨if t then a.eval x' else a.eval y',?_,?_⟩
  .simp only[execOp,ho,hv,asBool,Sem.run_bind,Sem.run_pure,Result.andThen]
  .cases t
   .exact hf.eval h3
   .exact hf.eval h2
 .cases hm
theorem Lt{v:Value}(h:Rel dp F G w v d)(hd:BF d=true):v.oneCell'=true/\v.cells = #[v]:=by cases h<;>first|(simp[BF] at hd;done)|exact⟨rfl,rfl⟩
theorem LF{k:Nat}{g:Bool}{v:Value}{cs:List D}(h:Rel dp F G w v d)(hc:Am k g d=some cs) :
  cs.length=(if g then k else 1)/\v.cells.size=cs.length/\(∀(j:Nat) (u:Value) (e:D),v.cells[j]? = some u->cs[j]? = some e->Rel dp F G w u e/\BF e=true):=by
 cases g with
 |true=>
  simp only[Am] at hc;split at hc
  .rename_i ah;split at hc
   .rename_i hl;injection hc with hc
    subst hc;cases h with
    |agg vs ds YB h=>
     exact⟨by simpa using hl.1,YB,fun j u e hu he=>⟨h j u e hu he,Qd hl.2 he⟩⟩
   .cases hc
  .cases hc
 |false=>
  simp only[Am] at hc;split at hc
  .rename_i hd;injection hc with hc
   subst hc;obtain⟨h1,h2⟩:=Lt h hd;refine⟨by simp,by simp[h2],fun j u e hu he=>?_⟩;cases j with
   |zero=>
    rw[h2] at hu;simp at hu he;subst hu he;exact⟨h,hd⟩
   |succ j=>simp at he
  .cases hc
theorem zy{y:A}{j:Nat}{cs:List D}(hm:mR P dp o.op (.ext y j)=true)(hf:Fr dp F G w a fr)(he:av fr y=.AY cs)(hd:cs[j]? = some d):Qe P dp F G w a o d:=by
 simp only[mR] at hm;split at hm
 .rename_i x i ho;simp only[and_eq_true,beq_iff_eq] at hm;obtain⟨rfl,h⟩:=hm;have hr:=hf.eval h;rw[he] at hr;generalize hv:a.eval x=v at hr;cases hr with
  |AY vs ds hl h=>
   have Ap:i<vs.size:=by rw[hl];exact(gB.1 hd).1
   refine⟨vs[i],?_,h i vs[i] d (Array.getElem?_eq_getElem Ap) hd⟩;simp only[execOp,ho,hv,Instr.extract,Array.getElem?_eq_getElem Ap,Sem.run_bind,Sem.run_pure,Result.andThen]
 .cases hm
theorem wQ{k k':IntKind}{y:A}{n:Int}(hm:mR P dp o.op (.conv k y)=true)(hf:Fr dp F G w a fr)(he:av fr y=.i k' n):Qe P dp F G w a o (.i k (k.wrap n)):=by
 simp only[mR] at hm;split at hm
 .rename_i s t x ho;simp only[and_eq_true] at hm;obtain⟨⟨h1,h2⟩,h3⟩:=hm;have hr:=hf.eval h3;rw[he] at hr;generalize hv:a.eval x=v at hr;cases hr;obtain⟨ds,hds⟩:=Option.isSome_iff_exists.1 h1;unfold mU at h2;split at h2
  .rename_i dt hdt;dsimp only at h2;split at h2
   .simp only[decide_eq_true_eq] at h2;subst h2;refine⟨.int k (k.wrap n),?_,.i _ _⟩;simp only[execOp,ho,hv,convert,Sem.run_bind,run_underlying hds,run_underlying hdt,Result.andThen,Conv.intToInt,Sem.run_pure]
   .cases h2
  .cases h2
 .cases hm
theorem wH{g:Nat}{ys:List A}(hm:mR P dp o.op (.KP g ys)=true)(hf:Fr dp F G w a fr):Qe P dp F G w a o (.fn g (OH fr ys)):=by
 simp only[mR] at hm;split at hm
 .rename_i f first captured ho
  simp only[and_eq_true] at hm;obtain⟨⟨h1,h2⟩,h3⟩:=hm;obtain⟨e1,e2,e3⟩:=hf.PA h3;unfold mF at h2;split at h2
  .rename_i x hx;simp only[beq_iff_eq] at h2;subst h2;refine⟨.func (.func x.real) #[] (captured.map a.eval),?_,.fn g x hx _ _ (by simp[e2];simpa using e1) fun j v d hv hd=>e3 j v d (by simpa using hv) hd⟩
   have hfi:first.map a.eval = #[]:=by
    have:first = #[]:=by simpa using h1
    simp[this]
   simp only[execOp,ho,Instr.makeFunc,hfi,Sem.run_bind,Sem.run_pure,Result.andThen]
  .cases h2
 .cases hm
theorem pur_un{op:UnOp}{y:A}(hm:mR P dp o.op (.un op y)=true)(hf:Fr dp F G w a fr)(he:ES op (av fr y)=some d):Qe P dp F G w a o d:=by
 simp only[mR] at hm;split at hm
 .rename_i op' t x ho;simp only[and_eq_true,decide_eq_true_eq] at hm;obtain⟨rfl,h⟩:=hm;have hr:=hf.eval h;unfold ES at he;split at he
  .rename_i z heq;rw[heq] at hr;generalize hv:a.eval x=v at hr;cases hr;injection he with he
   subst he;exact⟨.bool (!z),by simp only[execOp,ho,hv,Op.unary,Sem.run_bind,Sem.run_pure,Result.andThen],.b _⟩
  .rename_i k n heq;rw[heq] at hr;generalize hv:a.eval x=v at hr;cases hr;injection he with he
   subst he;exact⟨.int k (k.wrap (0-n)),by simp only[execOp,ho,hv,Op.unary,Op.intArith,Sem.run_bind,Sem.run_pure,Result.andThen],.i _ _⟩
  .rename_i k n heq;rw[heq] at hr;generalize hv:a.eval x=v at hr;cases hr;simp only[EI] at he;injection he with he
   subst he;exact⟨_,by simp only[execOp,ho,hv,Op.unary,Op.intBits,Sem.run_bind,Sem.run_pure,Result.andThen],.i _ _⟩
  .cases he
 .cases hm
theorem pur_mx{y z:A}{k:IntKind}{m n:Int}(hm:mR P dp o.op (.mx y z)=true)(hf:Fr dp F G w a fr)(h1:av fr y=.i k m)(h2:av fr z=.i k n) :
  Qe P dp F G w a o (.i k (if n>m then n else m)):=by
 simp only[mR] at hm;split at hm
 .rename_i c ho;simp only[and_eq_true] at hm;obtain⟨hb,BE⟩:=hm;split at hb
  .rename_i MN;obtain⟨e1,e2,e3⟩:=hf.PA BE;have hl:c.args.toList.length=2:=by rw[e1];rfl
   match hx:c.args.toList,hl with
   |[x1,x2],_=>
    rw[hx] at BE;simp only[UO,and_eq_true] at BE;have r1:=hf.eval BE.1;have r2:=hf.eval BE.2.1;rw[h1] at r1;rw[h2] at r2;generalize Lh:a.eval x1=v1 at r1;generalize EM:a.eval x2=v2 at r2;cases r1;cases r2;have OB:(c.args.map a.eval).toList=[.int k m,.int k n]:=by simp[hx,Lh,EM]
    refine⟨.int k (if n>m then n else m),?_,.i _ _⟩;simp only[execOp,ho,resolve,MN,Sem.run_bind,Sem.run_pure,Result.andThen,invoke,builtin,Builtin.max_,OB,List.foldlM_cons,List.foldlM_nil,Builtin.max2]
  .cases hb
 .cases hm
theorem pur_mn{y z:A}{k:IntKind}{m n:Int}(hm:mR P dp o.op (.mn y z)=true)(hf:Fr dp F G w a fr)(h1:av fr y=.i k m)(h2:av fr z=.i k n) :
  Qe P dp F G w a o (.i k (if n<m then n else m)):=by
 simp only[mR] at hm;split at hm
 .rename_i c ho;simp only[and_eq_true] at hm;obtain⟨hb,BE⟩:=hm;split at hb
  .rename_i MN;obtain⟨e1,e2,e3⟩:=hf.PA BE;have hl:c.args.toList.length=2:=by rw[e1];rfl
   match hx:c.args.toList,hl with
   |[x1,x2],_=>
    rw[hx] at BE;simp only[UO,and_eq_true] at BE;have r1:=hf.eval BE.1;have r2:=hf.eval BE.2.1;rw[h1] at r1;rw[h2] at r2;generalize Lh:a.eval x1=v1 at r1;generalize EM:a.eval x2=v2 at r2;cases r1;cases r2;have OB:(c.args.map a.eval).toList=[.int k m,.int k n]:=by simp[hx,Lh,EM]
    refine⟨.int k (if n<m then n else m),?_,.i _ _⟩;simp only[execOp,ho,resolve,MN,Sem.run_bind,Sem.run_pure,Result.andThen,invoke,builtin,Builtin.min_,OB,List.foldlM_cons,List.foldlM_nil,Builtin.min2]
  .cases hb
 .cases hm
theorem Xn{str:Bool}{y:A}{n:Nat}(hm:mR P dp o.op (.len str y)=true)(hf:Fr dp F G w a fr)
  (he:(match str,av fr y with|false,.sl _ _ xs _=>some xs.length|false,.ar _ _ _ n=>some n|true,.s l=>some l.length|_,_=>none)=some n):Qe P dp F G w a o (.i .i64 n):=by
 simp only[mR] at hm;split at hm
 .rename_i c ho;simp only[and_eq_true] at hm;obtain⟨⟨hb,ht⟩,BE⟩:=hm;split at hb
  .rename_i MN;split at ht
   .rename_i t ts hts
    have YM:c.argTypes[0]? = some t:=by rw[<-getElem?_toList,hts];rfl
    obtain⟨e1,e2,e3⟩:=hf.PA BE;have hl:c.args.toList.length=1:=by rw[e1];rfl
    match hx:c.args.toList,hl with
    |[x1],_=>
     rw[hx] at BE;simp only[UO,and_eq_true] at BE;have r1:=hf.eval BE.1
     have ha0:(c.args.map a.eval)[0]? = some (a.eval x1):=by rw[<-getElem?_toList];simp[hx]
     unfold mU at ht;split at ht
     .rename_i td Jr;dsimp only at ht;refine⟨goInt n,?_,by exact .i _ _⟩;simp only[execOp,ho,resolve,MN,Sem.run_bind,Sem.run_pure,Result.andThen,invoke,builtin,Builtin.len_,YM,ha0,run_underlying Jr];generalize a.eval x1=v at r1;generalize av fr y=e at r1 he;split at ht
      .cases str
       .cases r1<;>simp at he<;>subst he<;>rfl
       .simp at ht
      .cases str
       .simp at ht
       .cases r1<;>simp at he<;>subst he<;>rfl
      .cases ht
     .cases ht
   .cases ht
  .cases hb
 .cases hm
end
end
section
open Go
variable [Ga]
theorem G7(b o n:Nat):(⟨b,o,none⟩:Addr).add n=⟨b,o+n,none⟩:=by
 unfold Addr.add;split
 .rename_i h;subst h;rfl
 .rfl
theorem BN{P:Program}{t:TypeId}{k:Nat}(h:jw P t k=true)(w:World):(sizeOf t).run P w=.ok k w:=by
 unfold jw at h;split at h
 .rename_i i hi;simp only[beq_iff_eq] at h;subst h;simp only[sizeOf,typeInfo,Sem.run_bind,run_program,Result.andThen,hi,Sem.run_pure]
 .cases h
theorem jW{P:Program}{t:TypeId}{k:Nat}{g:Bool}(h:mT P t k g=true):jw P t k=true:=by unfold mT at h;simp only[and_eq_true] at h;exact h.1
theorem LM{P:Program}{t:TypeId}{k:Nat}{g:Bool}(h:mT P t k g=true)(w:World):(isAgg t).run P w=.ok g w/\(g=false->k=1):=by
 unfold mT at h;simp only[and_eq_true] at h;obtain⟨_,h⟩:=h;split at h
 .rename_i fs hd;subst h;exact⟨by simp only[isAgg,Sem.run_bind,run_underlying hd,Result.andThen,Sem.run_pure],by simp⟩
 .rename_i fs n hd;subst h;exact⟨by simp only[isAgg,Sem.run_bind,run_underlying hd,Result.andThen,Sem.run_pure],by simp⟩
 .rename_i d h1 h2 hd;simp only[and_eq_true,not_eq_true',beq_iff_eq] at h;obtain⟨rfl,rfl⟩:=h;refine⟨?_,fun _=>rfl⟩;simp only[isAgg,Sem.run_bind,run_underlying hd,Result.andThen];cases d<;>first|rfl|(exfalso;first|exact h1 _ rfl|exact h2 _ _ rfl)
 .cases h
section
variable {P:Program}{dp:Nat->Option Fn}{F F':GD}{G G':List Gh}{w w':World}{S S':A1}{a:Act}{fr:List D}{o:Oper}{d:D}
theorem tc{y:A}{off:Nat}(hm:mR P dp o.op (.fa off y)=true)(hf:Fr dp F G w a fr)
  (he:(match av fr y with|.bx id p=>some (D.bx id (p+off))|.el cs p=>some (.el cs (p+off))|_=>none)=some d):Qe P dp F G w a o d:=by
 simp only[mR] at hm;split at hm
 .rename_i t x j ho;simp only[and_eq_true] at hm;obtain⟨h1,h2⟩:=hm;have hr:=hf.eval h2;split at h1
  .rename_i fs hu;split at h1
   .rename_i f hfj;simp only[and_eq_true,beq_iff_eq] at h1;obtain⟨rfl,h3⟩:=h1;split at h3
    .rename_i i hi;have CF:i.size≠0:=by simpa using h3
     have Cw:(sizeOf f.type).run P w=.ok i.size w:=BN (by simp[jw,hi]) w
     have run:∀b p,a.eval x=.pointer (some ⟨b,p,none⟩)->(execOp a.eval o).run P w=.ok (.value (.pointer (some ⟨b,p+f.offset,none⟩))) w:=by intro b p hv;simp only[execOp,ho,hv,Instr.fieldAt,Instr.sureAddr,fieldPlace,Sem.run_bind,run_underlying hu,hfj,Sem.run_pure,Result.andThen,Cw,if_neg CF,G7]
     generalize hv:a.eval x=v at hr run;generalize av fr y=e at hr he;cases hr<;>simp at he
     .rename_i id p g hg;subst he;exact⟨_,run _ _ rfl,.bx _ _ _ hg⟩
     .rename_i cs blk base p c h1 h2;subst he;exact⟨_,run _ _ rfl,by rw[add_assoc];exact .el cs blk base _ c h1 h2⟩
    .cases h3
   .cases h1
  .cases h1
 .cases hm
theorem cV{cs:List D}{k off:Nat}{g:Bool}{t:TypeId}{blk base:Nat}{c:Nat->Value}(hT:mT P t k g=true)
  (hc:∀(m:Nat) (e:D),cs[m]? = some e->w.cell? ⟨blk,base+m,none⟩=some (c m)/\Rel dp F G w (c m) e) (hd:MM cs off k g=some d) :
  ∃v,(loadVar t ⟨blk,base+off,none⟩).run P w=.ok v w/\Rel dp F G w v d:=by
 obtain⟨ha,hk⟩:=LM hT w;unfold MM at hd;cases g with
 |true=>
  simp only[if_true] at hd;split at hd
  .rename_i hle;injection hd with hd
   subst hd
   have hl:∀j,j<k->w.cell? ((⟨blk,base+off,none⟩:Addr).add j)=some (c (off+j)):=by
    intro j hj;have Ap:off+j<cs.length:=by omega
    rw[G7,add_assoc];exact(hc (off+j) cs[off+j] (gA Ap)).1
   refine⟨_,by simp only[loadVar,Sem.run_bind,ha,Result.andThen,if_true,BN (jW hT) w,run_loadCells w _ k (fun j=>c (off+j)) hl,Sem.run_pure];rfl,.agg _ _ (by simp;omega) fun j v e hv he=>?_⟩
   have hj:j<k:=by have:=(Array.getElem?_eq_some_iff.1 hv).1;simpa using this
   simp[hj] at hv;subst hv;rw[List.getElem?_take_of_lt hj,getElem?_drop] at he;exact(hc (off+j) e he).2
  .cases hd
 |false=>
  simp at hd;obtain⟨h1,h2⟩:=hc off d hd;exact⟨c off,by simp only[loadVar,Sem.run_bind,ha,Result.andThen,false_eq_true,if_false,run_load,h1],h2⟩
theorem Hh{b m:Nat}{vs:Array Value}{T:TypeId}{z:Nat×Nat}(h:w.heap[b]? = some (.cells vs T z)):w.cell? ⟨b,m,none⟩=vs[m]?:=by simp[World.cell?,h]
theorem pur_ld{y:A}{k:Nat}{g:Bool}(hm:mR P dp o.op (.ld k g y)=true)(hs:BX dp F G w S)(hf:Fr dp F G w a fr)(he:AE S k g (av fr y)=some d):Qe P dp F G w a o d:=by
 simp only[mR] at hm;split at hm
 .rename_i t x ho;simp only[and_eq_true] at hm;obtain⟨hT,h2⟩:=hm;have hr:=hf.eval h2
  have run:∀ad v,a.eval x=.pointer (some ad)->(loadVar t ad).run P w=.ok v w->(execOp a.eval o).run P w=.ok (.value v) w:=by intro ad v hv hl;simp only[execOp,ho,hv,Instr.loadAt,Instr.sureAddr,Sem.run_bind,Sem.run_pure,Result.andThen,hl]
  generalize hv:a.eval x=v at hr run;generalize av fr y=e at hr he;cases hr<;>simp only[AE] at he<;>try (cases he;done)
  .rename_i id p gh hg;split at he
   .rename_i cs K9;obtain⟨vs,T,hh,⟨hl,_⟩,_,_,hc⟩:=hs.aV id _ gh K9 hg
    have:=cV (P:=P) (dp:=dp) (F:=F) (G:=G) (w:=w) (cs:=cs) (k:=k) (off:=p) (g:=g) (t:=t) (blk:=gh.blk) (base:=0) (c:=fun m=>vs.getD m undef) hT (fun m e UW=>by
     have Ap:m<vs.size:=Nat.lt_of_lt_of_le (gB.1 UW).1 hl;have e1:vs[m]? = some (vs.getD m undef):=by simp[getD,Ap]
     exact⟨by rw[zero_add,Hh hh,e1],hc m _ e e1 UW⟩) he
    rw[zero_add] at this;obtain⟨u,hu,hru⟩:=this;exact⟨u,run _ u rfl hu,hru⟩
   .cases he
  .rename_i cs blk base p c h1 h2;obtain⟨u,hu,hru⟩:=cV (P:=P) hT (fun m e UW=>⟨(h1 m e UW).2,h2 m e UW⟩) he;exact⟨u,run _ u rfl hu,hru⟩
 .cases hm
theorem yi{y:A}{off k:Nat}{g:Bool}{cs:List D}(hm:mR P dp o.op (.Wy off k g y)=true)(hf:Fr dp F G w a fr)(h1:av fr y=.agg cs)(he:MM cs off k g=some d):Qe P dp F G w a o d:=by
 simp only[mR] at hm;split at hm
 .rename_i t x j ho;simp only[and_eq_true] at hm;obtain⟨h2,h3⟩:=hm;have hr:=hf.eval h3;rw[h1] at hr;split at h2
  .rename_i fs hu;split at h2
   .rename_i f hfj;simp only[and_eq_true,beq_iff_eq] at h2;obtain⟨rfl,hT⟩:=h2;obtain⟨hag,hk⟩:=LM hT w;generalize hv:a.eval x=v at hr;cases hr with
    |agg vs ds hl h=>
     unfold MM at he;cases g with
     |true=>
      simp only[if_true] at he;split at he
      .rename_i hle;injection he with he
       subst he;refine⟨.agg (vs.extract f.offset (f.offset+k)),?_,.agg _ _ (by simp;omega) fun j v e EM he=>?_⟩
       .simp only[execOp,ho,hv,Instr.field,Sem.run_bind,run_underlying hu,hfj,asAgg,Sem.run_pure,Result.andThen,part,hag,if_true,BN (jW hT) w]
       .rw[Array.getElem?_extract] at EM;split at EM
        .rename_i hj;have hjk:j<k:=by omega
         rw[List.getElem?_take_of_lt hjk,getElem?_drop] at he;exact h _ v e EM he
        .cases EM
      .cases he
     |false=>
      simp at he;have Ap:f.offset<vs.size:=by rw[hl];exact(gB.1 he).1
      refine⟨vs[f.offset],?_,h f.offset _ d (Array.getElem?_eq_getElem Ap) he⟩;simp only[execOp,ho,hv,Instr.field,Sem.run_bind,run_underlying hu,hfj,asAgg,Sem.run_pure,Result.andThen,part,hag,false_eq_true,if_false,Array.getElem?_eq_getElem Ap]
   .cases h2
  .cases h2
 .cases hm
theorem pur_ia{y i:A}{k:Nat}(hm:mR P dp o.op (.ia k y i)=true)(hf:Fr dp F G w a fr)(he:Ak k (av fr y) (av fr i)=some d):Qe P dp F G w a o d:=by
 simp only[mR] at hm;split at hm
 .rename_i t x ix ho;simp only[and_eq_true] at hm;obtain⟨⟨hU,hx⟩,hi⟩:=hm;have hr:=hf.eval hx;have pC:=hf.eval hi;unfold mU at hU;split at hU
  .rename_i td Jr;unfold MX at hU;split at hU
   .rename_i el
    have run:∀b p len cap kk n,a.eval x=.slice (some ⟨b,p,none⟩) len cap->a.eval ix=.int kk n->0<=n->n<len->(execOp a.eval o).run P w=.ok (.value (.pointer (some ⟨b,p+n.toNat*k,none⟩))) w:=by intro b p len cap kk n hv hvi h0 h1;simp only[execOp,ho,hv,hvi,Instr.indexAt,asIntOf,Sem.run_bind,Sem.run_pure,run_underlying Jr,Result.andThen,if_pos (And.intro h0 h1),BN hU w,G7]
    generalize hvx:a.eval x=v at hr run;generalize hvi:a.eval ix=u at pC run;generalize av fr y=e at hr he;generalize av fr i=e' at pC he;unfold Ak at he;split at he
    .rename_i k' nl xs ow kk n;split at he
     .rename_i hc;obtain⟨h0,rfl⟩:=hc;cases pC;cases pD:xs[n.toNat]? with
      |none=>simp[pD] at he
      |some cs=>
       simp only[pD,map_some,Option.some.injEq] at he;subst he;have Ap:=(gB.1 pD).1;cases hr with
       |nil=>simp at Ap
       |emp=>simp at Ap
       |sl k xs o blk off cap c hk Eh h1 h2 Qu=>
        refine⟨_,run blk off xs.length cap kk n rfl rfl h0 (by omega),?_⟩;exact .el cs blk (off+n.toNat*k') 0 (c n.toNat) (fun m e UW=>⟨(h1 _ cs m e pD UW).1,(h1 _ cs m e pD UW).2.1⟩) (fun m e UW=>h2 _ cs m e pD UW)
     .cases he
    .rename_i k' id oo m kk n;split at he
     .rename_i hc;obtain⟨h0,h1,rfl⟩:=hc;injection he with he
      subst he;cases pC;cases hr with
      |ar k id o n cap g hg hn=>exact⟨_,run g.blk oo m cap kk _ rfl rfl h0 h1,.bx _ _ g hg⟩
     .cases he
    .cases he
   .cases hU
  .cases hU
 .cases hm
theorem yg{y i:A}{n k id off:Nat}{kk:IntKind}{m:Int}(hm:mR P dp o.op (.pA n k y i)=true)(hf:Fr dp F G w a fr)(h1:av fr y=.bx id off)(h2:av fr i=.i kk m)
  (h0:0<=m) (Ap:m<n):Qe P dp F G w a o (.bx id (off+m.toNat*k)):=by
 simp only[mR] at hm;split at hm
 .rename_i t x ix ho;simp only[and_eq_true] at hm;obtain⟨⟨hU,hx⟩,hi⟩:=hm;have hr:=hf.eval hx;have pC:=hf.eval hi;rw[h1] at hr;rw[h2] at pC;unfold mU at hU;split at hU
  .rename_i td Jr;dsimp only at hU;split at hU
   .rename_i mm el;simp only[and_eq_true,beq_iff_eq] at hU;obtain⟨rfl,Cw⟩:=hU;generalize hvx:a.eval x=v at hr;generalize hvi:a.eval ix=u at pC;cases hr with
    |bx id o g hg=>
     cases pC;refine⟨.pointer (some ⟨g.blk,off+m.toNat*k,none⟩),?_,.bx _ _ g hg⟩;simp only[execOp,ho,hvx,hvi,Instr.indexAt,Instr.sureAddr,asIntOf,Sem.run_bind,Sem.run_pure,run_underlying Jr,Result.andThen,if_pos (And.intro h0 Ap),BN Cw w,G7]
   .cases hU
  .cases hU
 .cases hm
theorem pur_ixs{y i:A}{l:List UInt8}{kk:IntKind}{m:Int}{c:UInt8}(hm:mR P dp o.op (.pB y i)=true)(hf:Fr dp F G w a fr)(h1:av fr y=.s l)(h2:av fr i=.i kk m)
  (h0:0<=m) (hc:l[m.toNat]? = some c):Qe P dp F G w a o (.i .u8 c.toNat):=by
 simp only[mR] at hm;split at hm
 .rename_i t x ix ho;simp only[and_eq_true] at hm;obtain⟨⟨hU,hx⟩,hi⟩:=hm;have hr:=hf.eval hx;have pC:=hf.eval hi;rw[h1] at hr;rw[h2] at pC;unfold mU at hU;split at hU
  .rename_i td Jr;unfold isString at hU;split at hU
   .generalize hvx:a.eval x=v at hr;generalize hvi:a.eval ix=u at pC;cases hr;cases pC
    have hb:(⟨l.toArray⟩:ByteArray)[m.toNat]? = some c:=by
     have Ap:=(gB.1 hc).1;rw[getElem?_pos (⟨l.toArray⟩:ByteArray) m.toNat (by show m.toNat<l.toArray.size;simpa using Ap)];rw[gA Ap] at hc;injection hc with hc
     rw[<-hc];rfl
    refine⟨.int .u8 c.toNat,?_,.i _ _⟩;simp only[execOp,ho,hvx,hvi,Instr.index,asIntOf,Sem.run_bind,Sem.run_pure,run_underlying Jr,Result.andThen,if_pos h0,hb]
   .cases hU
  .cases hU
 .cases hm
end
end
section
open Go
variable [Ga]
section
variable (P:Program)(dp:Nat->Option Fn)
def mGd(ops:List Oper):Option (Nat×Bool)->Option (Nat×Bool)->Bool
 |none,none=>true
 |some (j,x),some (t,y)=>x==y&&(match ops[j]? with | some o=>(match o.dst with | some u=>u==t | none=>false) | none=>false)
 |_,_=>false
def Zt:Option Nat->Option Nat->Bool
 |none,none=>true
 |some a,some b=>a==b
 |_,_=>false
def mI(ops:List Oper)(o:Oper):I->Bool
 |.op dst gd r=>Zt o.dst dst&&mGd ops o.guard gd&&mR P dp o.op r
 |_=>false
def TY(ops:List Oper):List Oper->List I->Bool
 |[],[]=>true
 |l,.fz _::is=>TY ops l is
 |o::l,i::is=>mI P dp ops o i&&TY ops l is
 |_,_=>false
end
inductive Kd where
 |p | r | x
def kdR:R->Kd
 |.ld _ _ _=>.r
 |.lk _ _ _ _ _=>.r
 |.alloc _=>.x
 |.box _ _ _=>.x
 |.EZ _ _ own xs=>if own && !xs.isEmpty then .x else .p
 |.xD _ _ _=>.x
 |.st _ _ _ _=>.x
 |.Hy=>.x
 |.Lo _ _ _ _=>.x
 |.mu _ _ _ _=>.x
 |.U0 _ _ _ _=>.x
 |.xE _ _ _=>.x
 |.app _ _ _ _=>.x
 |.xF _ _ _=>.x
 |.call _ Gv _=>if Gv then .p else .x
 |.BL _ Gv _=>if Gv then .p else .x
 |_=>.p
def Ho:A->List Nat
 |.t n=>[n]
 |.c _=>[]
def sq:Option A->List Nat
 |some x=>Ho x
 |none=>[]
def UK:List A->List Nat
 |[]=>[]
 |x::l=>Ho x++UK l
def zN:List (Nat×Nat×Bool×A)->List Nat
 |[]=>[]
 |(_,_,_,x)::l=>Ho x++zN l
def usR:R->List Nat
 |.mv x=>Ho x
 |.Et x=>Ho x
 |.pick c a b=>Ho c++(Ho a++Ho b)
 |.alloc _=>[]
 |.box _ _ x=>Ho x
 |.CT _ ps=>zN ps
 |.EZ _ _ _ xs=>UK xs
 |.xD _ _ xs=>UK xs
 |.ld _ _ a=>Ho a
 |.st _ _ a v=>Ho a++Ho v
 |.bin _ _ x y=>Ho x++Ho y
 |.un _ x=>Ho x
 |.conv _ x=>Ho x
 |.KP _ cs=>UK cs
 |.Hy=>[]
 |.Lo _ _ _ n=>Ho n
 |.Ty _ x lo hi=>Ho x++(sq lo++sq hi)
 |.Tz x lo hi=>Ho x++(sq lo++sq hi)
 |.fa _ x=>Ho x
 |.Wy _ _ _ x=>Ho x
 |.ia _ x i=>Ho x++Ho i
 |.pA _ _ x i=>Ho x++Ho i
 |.pB x i=>Ho x++Ho i
 |.lk _ _ _ m key=>Ho m++Ho key
 |.mu _ m key v=>Ho m++(Ho key++Ho v)
 |.U0 _ _ m key=>Ho m++Ho key
 |.xE m j v=>Ho m++(Ho j++Ho v)
 |.ext x _=>Ho x
 |.len _ x=>Ho x
 |.app _ _ x y=>Ho x++Ho y
 |.mx x y=>Ho x++Ho y
 |.mn x y=>Ho x++Ho y
 |.xF _ _ x=>Ho x
 |.call _ _ args=>UK args
 |.BL f _ args=>Ho f++UK args
 |.EN x y=>Ho x++Ho y
def usG:Option (Nat×Bool)->List Nat
 |some (t,_)=>[t]
 |none=>[]
def Ju(ops:List Oper):List Nat->List Nat
 |acc=>match ops with
  |[]=>acc
  |o::l=>Ju l (acc++[o.after.toList.foldl (fun s e=>if Region.binds .any e then s ||| 2^e.on ||| acc.getD e.on 0 else s) 0])
end
section
open Go
variable [Ga]
section
variable {P:Program}{dp:Nat->Option Fn}{F F':GD}{G G':List Gh}{w w':World}{S S':A1}{a:Act}{fr:List D}{o:Oper}{d:D}
theorem Fr.evalo{a:Act}{fr:List D}(h:Fr dp F G w a fr){x:Option Operand}{y:Option A}(hm:mAo dp x y=true) :
  (x=none/\Vo fr y=none)\/∃u v,x.map a.eval=some u/\Vo fr y=some v/\Rel dp F G w u v:=by
 unfold mAo at hm;split at hm
 .exact .inl ⟨rfl,rfl⟩
 .exact .inr ⟨_,_,rfl,rfl,h.eval hm⟩
 .cases hm
theorem Jj{isS:Bool}{n cap l h:Nat}{lo hi:Option D}{x y:Option Value}(hb:bounds n lo hi=some (l,h))(hn:n<=cap)
  (hx:(x=none/\lo=none)\/∃u v,x=some u/\lo=some v/\Rel dp F G w u v) (hy:(y=none/\hi=none)\/∃u v,y=some u/\hi=some v/\Rel dp F G w u v) :
  (Instr.sliceBounds isS n cap x y none).run P w=.ok (l,h,cap) w/\l<=h/\h<=n:=by
 have sb:∀(code:BoundsCode) (k:IntKind) (i:Int) (m:Nat),0<=i->i<=m->(Instr.sliceBound (.int k i) m code).run P w=.ok i.toNat w:=by intro code k i m h0 h1;simp only[Instr.sliceBound,asIntOf,Sem.run_bind,Sem.run_pure,Result.andThen,if_pos (And.intro h0 h1)]
 rcases hy with⟨rfl,rfl⟩|⟨u,v,rfl,rfl,hru⟩
 .rcases hx with⟨rfl,rfl⟩|⟨u',v',rfl,rfl,hru'⟩
  .simp only[bounds] at hb;injection hb with hb
   injection hb with h1 h2
   subst h1 h2;exact⟨by simp[Instr.sliceBounds],by omega,by omega⟩
  .cases hru'<;>simp only[bounds] at hb<;>try (cases hb;done)
   rename_i k i;split at hb
   .rename_i hc;injection hb with hb
    injection hb with h1 h2
    subst h1 h2;refine⟨?_,by omega,by omega⟩;simp only[Instr.sliceBounds,Sem.run_bind,Sem.run_pure,Result.andThen,isSome_none,false_eq_true,if_false,sb _ _ _ _ hc.1 hc.2]
   .cases hb
 .cases hru<;>simp only[bounds] at hb<;>try (cases hb;done)
  rename_i k i;split at hb
  .rename_i hc;rcases hx with⟨rfl,rfl⟩|⟨u',v',rfl,rfl,hru'⟩
   .injection hb with hb
    injection hb with h1 h2
    subst h1 h2;refine⟨?_,by omega,by omega⟩;cases isS<;>simp[Instr.sliceBounds,sb _ _ _ _ hc.1 (show i<=(cap:Int) by omega)]
   .cases hru'<;>simp only at hb<;>try (cases hb;done)
    rename_i k' i';split at hb
    .rename_i YC;injection hb with hb
     injection hb with h1 h2
     subst h1 h2;refine⟨?_,by omega,by omega⟩;cases isS<;>simp[Instr.sliceBounds,sb _ _ _ _ hc.1 (show i<=(cap:Int) by omega),sb _ _ _ _ YC.1 (show i'<=(i.toNat:Int) by omega)]
    .cases hb
  .cases hb
theorem LK{a:Act}{fr:List D}(hf:Fr dp F G w a fr){x:Option Operand}{y:Option A}(hm:mAo dp x y=true) :
  (x.map a.eval=none/\Vo fr y=none)\/∃u v,x.map a.eval=some u/\Vo fr y=some v/\Rel dp F G w u v:=by
 rcases hf.evalo hm with⟨rfl,e⟩|e
 .exact .inl ⟨rfl,e⟩
 .exact .inr e
theorem pur_slc{y:A}{lo hi:Option A}{k:Nat}(hm:mR P dp o.op (.Ty k y lo hi)=true)(hf:Fr dp F G w a fr)(he:GG k (av fr y) (Vo fr lo) (Vo fr hi)=some d):Qe P dp F G w a o d:=by
 simp only[mR] at hm;split at hm
 .rename_i t x l h ho;simp only[and_eq_true] at hm;obtain⟨⟨⟨hU,hx⟩,hl⟩,hh⟩:=hm;have hr:=hf.eval hx;have oL:=LK hf hl;have oM:=LK hf hh;generalize hv:a.eval x=v at hr;generalize av fr y=e at hr he;unfold mU at hU;split at hU
  .rename_i td Jr;unfold MX at hU;split at hU
   .rename_i el;unfold GG at he;split at he
    .rename_i k' nl xs ow;split at he
     .rename_i hk;subst hk;split at he
      .rename_i p q hb;injection he with he
       subst he;cases hr with
       |nil=>
        obtain⟨e1,e2,e3⟩:=Jj (P:=P) (isS:=true) (cap:=0) hb (Nat.le_refl _) oL oM;simp only[length_nil] at e1 e3;obtain rfl:q=0:=by omega
        obtain rfl:p=0:=by omega
        refine⟨.slice none 0 0,?_,by simpa using Rel.nil (dp:=dp) (F:=F) (G:=G) (w:=w) k' .ro⟩;simp only[execOp,ho,hv,Instr.sliceAt,Sem.run_bind,run_underlying Jr,Result.andThen,Instr.slice,map_none,e1,BN hU w,Sem.run_pure,if_true,sub_self]
       |emp k ad cap=>
        obtain⟨e1,e2,e3⟩:=Jj (P:=P) (isS:=true) (cap:=cap) hb (zero_le _) oL oM;simp only[length_nil] at e1 e3;obtain rfl:q=0:=by omega
        obtain rfl:p=0:=by omega
        refine⟨.slice (some (if cap=0 then ad else ad.add 0)) 0 cap,?_,by simpa using Rel.emp (dp:=dp) (F:=F) (G:=G) (w:=w) k' _ cap⟩;simp only[execOp,ho,hv,Instr.sliceAt,Sem.run_bind,run_underlying Jr,Result.andThen,Instr.slice,map_none,e1,BN hU w,Sem.run_pure,if_true,sub_self];split<;>simp_all [G7]
       |sl k xs o blk off cap c YN Eh h1 h2 Qu=>
        obtain⟨e1,e2,e3⟩:=Jj (P:=P) (isS:=true) hb Eh oL oM;have hlen:((xs.drop p).take (q-p)).length=q-p:=by simp;omega
        have Lc:∀(j:Nat) (z:List D),((xs.drop p).take (q-p))[j]? = some z->xs[p+j]? = some z:=by
         intro j z hz;have hj:=(gB.1 hz).1;rw[hlen] at hj
         rwa [List.getElem?_take_of_lt hj,getElem?_drop] at hz
        refine⟨.slice (some ⟨blk,if cap=p then off else off+p*k',none⟩) (q-p) (cap-p),?_,?_⟩
        .simp only[execOp,ho,hv,Instr.sliceAt,Sem.run_bind,run_underlying Jr,Result.andThen,Instr.slice,map_none,e1,BN hU w,Sem.run_pure];split
         .rfl
         .simp[G7]
        .have:=Rel.sl (dp:=dp) (F:=F) (G:=G) (w:=w) k' ((xs.drop p).take (q-p)) .ro blk (if cap=p then off else off+p*k') (cap-p) (fun j m=>c (p+j) m)
          (fun z hz=>YN z (List.mem_of_mem_drop (List.mem_of_mem_take hz))) (by rw[hlen];omega)
          (fun j z m e hz UW=>by
           have hj:=(gB.1 hz).1;rw[hlen] at hj;have:=h1 (p+j) z m e (Lc j z hz) UW;rw[if_neg (by omega),show off+p*k'+j*k'+m=off+(p+j)*k'+m by rw[add_mul];omega]
           exact this)
          (fun j z m e hz UW=>h2 (p+j) z m e (Lc j z hz) UW) trivial
         rwa [hlen] at this
      .cases he
     .cases he
    .rename_i k' id oo n;split at he
     .rename_i hk;subst hk;split at he
      .rename_i p q hb;cases hr with
       |ar k id o n cap g hg hn=>
        obtain⟨e1,e2,e3⟩:=Jj (P:=P) (isS:=true) hb hn.1 oL oM
        have run:(execOp a.eval o).run P w=.ok (.value (.slice (some ⟨g.blk,if cap=p then oo else oo+p*k',none⟩) (q-p) (cap-p))) w:=by
         simp only[execOp,ho,hv,Instr.sliceAt,Sem.run_bind,run_underlying Jr,Result.andThen,Instr.slice,map_none,e1,BN hU w,Sem.run_pure];split
         .rfl
         .simp[G7]
        split at he
        .rename_i hqp;subst hqp;injection he with he
         subst he;refine⟨_,run,?_⟩;rw[sub_self];exact Rel.sl k' [] .ro g.blk _ _ (fun _ _=>undef) (fun z hz=>by simp at hz) (zero_le _) (fun j z m e hz=>by simp at hz) (fun j z m e hz=>by simp at hz) trivial
        .injection he with he
         subst he;refine⟨_,run,?_⟩;rw[if_neg (by omega)];have e4:=hn.1;have e5:(cap-p)*k'+p*k'=cap*k':=by rw[<-add_mul];congr 1;omega
         exact .ar k' id _ _ _ g hg ⟨by omega,by have:=hn.2;omega⟩
      .cases he
     .cases he
    .cases he
   .cases hU
  .cases hU
 .cases hm
theorem qi{y:A}{lo hi:Option A}(hm:mR P dp o.op (.Tz y lo hi)=true)(hf:Fr dp F G w a fr)(he:gr (av fr y) (Vo fr lo) (Vo fr hi)=some d):Qe P dp F G w a o d:=by
 simp only[mR] at hm;split at hm
 .rename_i t x l h ho;simp only[and_eq_true] at hm;obtain⟨⟨⟨hU,hx⟩,hl⟩,hh⟩:=hm;have hr:=hf.eval hx;have oL:=LK hf hl;have oM:=LK hf hh;generalize hv:a.eval x=v at hr;generalize av fr y=e at hr he;unfold mU at hU;split at hU
  .rename_i td Jr;unfold isString at hU;split at hU
   .unfold gr at he;split at he
    .rename_i l';split at he
     .rename_i p q hb;injection he with he
      subst he;cases hr;have Cw:(⟨l'.toArray⟩:ByteArray).size=l'.length:=by show l'.toArray.size=_;simp
      obtain⟨e1,e2,e3⟩:=Jj (P:=P) (isS:=false) (cap:=l'.length) hb (Nat.le_refl _) oL oM
      have hex:(⟨l'.toArray⟩:ByteArray).extract p q=⟨((l'.drop p).take (q-p)).toArray⟩:=by apply ByteArray.ext;rw[ByteArray.data_extract];apply Array.ext';simp
      refine⟨.string ⟨((l'.drop p).take (q-p)).toArray⟩,?_,.s _⟩;simp only[execOp,ho,hv,Instr.sliceAt,Sem.run_bind,run_underlying Jr,Result.andThen,Instr.slice,map_none,isSome_none,false_eq_true,if_false,Cw,e1,Sem.run_pure,hex]
     .cases he
    .cases he
   .cases hU
  .cases hU
 .cases hm
end
end
section
open Go
variable [Ga]
section
variable {P:Program}{dp:Nat->Option Fn}{F F':GD}{G G':List Gh}{w w':World}{S S':A1}{a:Act}{fr:List D}{o:Oper}{d:D}
theorem mz{op:BinOp}{k:IntKind}{x y:Int}(t:TypeId)(h:EI op k x y=some d)(h1:op ≠ .shl)(h2:op ≠ .shr) :
  ∃v,(binOp op t (.int k x) (.int k y)).run P w=.ok v w/\Rel dp F G w v d:=by
 have ar:∀_:Sem Value,(op=.add\/op=.sub\/op=.mul)->(binOp op t (.int k x) (.int k y)).run P w=(Op.intArith op k x y).run P w:=by rintro _ (rfl|rfl|rfl)<;>simp only[binOp,ne_eq,not_true_eq_false,if_false]
 have dv:(op=.quo\/op=.rem)->(binOp op t (.int k x) (.int k y)).run P w=(Op.intDiv op k x y).run P w:=by rintro(rfl|rfl)<;>simp only[binOp,ne_eq,not_true_eq_false,if_false]
 have bt:(op=.and\/op=.or\/op=.xor)->(binOp op t (.int k x) (.int k y)).run P w=(Op.intBits op k x y).run P w:=by rintro(rfl|rfl|rfl)<;>simp only[binOp,ne_eq,not_true_eq_false,if_false]
 have cm:(op=.eql\/op=.neq\/op=.lss\/op=.leq\/op=.gtr\/op=.geq)->(binOp op t (.int k x) (.int k y)).run P w=(Op.intCmp op x y).run P w:=by rintro(rfl|rfl|rfl|rfl|rfl|rfl)<;>simp only[binOp,ne_eq,not_true_eq_false,if_false]
 cases op with
 |add=>injection h with h;subst h;exact⟨_,by rw[ar (pure undef) (by simp)];rfl,.i _ _⟩
 |sub=>injection h with h;subst h;exact⟨_,by rw[ar (pure undef) (by simp)];rfl,.i _ _⟩
 |mul=>injection h with h;subst h;exact⟨_,by rw[ar (pure undef) (by simp)];rfl,.i _ _⟩
 |quo=>
  simp only[EI] at h;split at h
  .cases h
  .rename_i hy;injection h with h;subst h
   exact⟨_,by rw[dv (by simp)];simp only[Op.intDiv,if_neg hy];rfl,.i _ _⟩
 |rem=>
  simp only[EI] at h;split at h
  .cases h
  .rename_i hy;injection h with h;subst h
   exact⟨_,by rw[dv (by simp)];simp only[Op.intDiv,if_neg hy];rfl,.i _ _⟩
 |and=>injection h with h;subst h;exact⟨_,by rw[bt (by simp)];rfl,.i _ _⟩
 |or=>injection h with h;subst h;exact⟨_,by rw[bt (by simp)];rfl,.i _ _⟩
 |xor=>injection h with h;subst h;exact⟨_,by rw[bt (by simp)];rfl,.i _ _⟩
 |shl=>exact absurd rfl h1
 |shr=>exact absurd rfl h2
 |andNot=>cases h
 |eql=>injection h with h;subst h;exact⟨_,by rw[cm (by simp)];rfl,.b _⟩
 |neq=>injection h with h;subst h;exact⟨_,by rw[cm (by simp)];rfl,.b _⟩
 |lss=>injection h with h;subst h;exact⟨_,by rw[cm (by simp)];rfl,.b _⟩
 |leq=>injection h with h;subst h;exact⟨_,by rw[cm (by simp)];rfl,.b _⟩
 |gtr=>injection h with h;subst h;exact⟨_,by rw[cm (by simp)];rfl,.b _⟩
 |geq=>injection h with h;subst h;exact⟨_,by rw[cm (by simp)];rfl,.b _⟩
theorem Gf{t el:TypeId}(n:Nat)(hu:P.underlying t=some (.slice el))(b:Option Addr)(m c:Nat):(Op.equalIn (n+1) t (.slice b m c) (.slice none 0 0)).run P w=.ok b.isNone w:=by simp only[Op.equalIn,Sem.run_bind,run_underlying hu,Result.andThen];cases b<;>rfl
theorem Le{t k el:TypeId}(n:Nat)(hu:P.underlying t=some (.map k el))(b:Option Nat):(Op.equalIn (n+1) t (.map b) (.map none)).run P w=.ok b.isNone w:=by simp only[Op.equalIn,Sem.run_bind,run_underlying hu,Result.andThen];cases b<;>rfl
theorem Zd{op:BinOp}{k k':IntKind}{x y:Int}(t:TypeId)(h:o0 op k x y=some d)(h1:op=.shl\/op=.shr) :
  ∃v,(binOp op t (.int k x) (.int k' y)).run P w=.ok v w/\Rel dp F G w v d:=by
 unfold o0 at h;split at h
 .cases h
 .rename_i hy;rcases h1 with rfl|rfl
  .injection h with h;subst h
   exact⟨_,by simp only[binOp,Op.shift,if_neg hy,Sem.run_pure],.i _ _⟩
  .injection h with h;subst h
   exact⟨_,by simp only[binOp,Op.shift,if_neg hy,Sem.run_pure],.i _ _⟩
theorem Yh{t:TypeId}(h:lU P t .i=true):∃k,P.underlying t=some (.int k):=by
 simp only[lU,mU] at h;split at h
 .rename_i td Jr;split at h
  .exact⟨_,Jr⟩
  .cases h
 .cases h
theorem Zh{t:TypeId}(h:lU P t .b=true):P.underlying t=some .bool:=by
 simp only[lU,mU] at h;split at h
 .rename_i td Jr;split at h
  .exact Jr
  .cases h
 .cases h
theorem Z3{t:TypeId}(h:lU P t .s=true):P.underlying t=some .string:=by
 simp only[lU,mU] at h;split at h
 .rename_i td Jr;split at h
  .exact Jr
  .cases h
 .cases h
theorem SG{t:TypeId}{k:SK}{x y:D}{u v:Value}{r:Bool}(n:Nat)(ht:lU P t k=true)(hx:HV k x=true)(hy:HV k y=true)(hs:seq1 x y=some r)
  (hu:Rel dp F G w u x) (hv:Rel dp F G w v y):(Op.equalIn (n+1) t u v).run P w=.ok r w:=by
 cases k with
 |i=>
  cases hu<;>simp[HV] at hx;cases hv<;>simp[HV] at hy;obtain⟨k,Jr⟩:=Yh ht;simp only[seq1] at hs;split at hs
  .rename_i hk;subst hk;injection hs with hs
   subst hs;exact run_equalIn_int w n t _ _ _ _ Jr
  .cases hs
 |b=>
  cases hu<;>simp[HV] at hx;cases hv<;>simp[HV] at hy;simp only[seq1] at hs;injection hs with hs
  subst hs;exact run_equalIn_bool' w n t _ _ (Zh ht)
 |s=>
  cases hu<;>simp[HV] at hx;cases hv<;>simp[HV] at hy;simp only[seq1] at hs;injection hs with hs
  subst hs;rw[run_equalIn_string w n t _ _ (Z3 ht)];simp[ByteArray.toList_eq]
theorem Gp{t:TypeId}{k:SK}{vs:Array Value}{j:Nat}{v:Value}(ht:lU P t k=true)(hv:vs[j]? = some v):(part t vs j).run P w=.ok v w:=by
 have hag:(isAgg t).run P w=.ok false w:=by
  cases k with
  |i=>
   obtain⟨k,Jr⟩:=Yh ht;simp only[isAgg,Sem.run_bind,run_underlying Jr,Result.andThen,Sem.run_pure]
  |b=>simp only[isAgg,Sem.run_bind,run_underlying (Zh ht),Result.andThen,Sem.run_pure]
  |s=>simp only[isAgg,Sem.run_bind,run_underlying (Z3 ht),Result.andThen,Sem.run_pure]
 simp only[part,Sem.run_bind,hag,Result.andThen,false_eq_true,if_false,hv,Sem.run_pure]
theorem K5:∀{ks:List SK} {xs ys:List D} {r:Bool},Ew ks xs ys=some r->xs.length=ks.length/\ys.length=ks.length
 |[],[],[],_,_=>⟨rfl,rfl⟩
 |[],_::_,_,_,h=>by simp[Ew] at h
 |[],[],_::_,_,h=>by simp[Ew] at h
 |_::_,[],_,_,h=>by simp[Ew] at h
 |_::_,_::_,[],_,h=>by simp[Ew] at h
 |k::ks,x::l,y::m,r,h=>by
  simp only[Ew] at h;split at h
  .split at h
   .rename_i p q h1 h2;have:=K5 h2;simp[this.1,this.2]
   .cases h
  .cases h
theorem PF{vs us:Array Value}{n:Nat}:∀{fs:List Field} {off:Nat} {ks:List SK} {xs ys:List D} {r:Bool},ED P fs off ks=true->Ew ks xs ys=some r ->
  (∀(j:Nat) (x:D),xs[j]? = some x->∃v,vs[off+j]? = some v/\Rel dp F G w v x)->(∀(j:Nat) (x:D),ys[j]? = some x->∃v,us[off+j]? = some v/\Rel dp F G w v x) ->
  (Op.eqFields (n+1) vs us fs).run P w=.ok r w
 |[],_,[],xs,ys,r,_,hs,_,_=>by obtain⟨h1,h2⟩:=K5 hs;cases xs<;>simp at h1;cases ys<;>simp at h2;simp only[Ew] at hs;injection hs with hs;subst hs;rfl
 |[],_,_::_,_,_,_,hf,_,_,_=>by simp[ED] at hf
 |_::_,_,[],_,_,_,hf,_,_,_=>by simp[ED] at hf
 |f::fs,off,k::ks,xs,ys,r,hf,hs,hx,hy=>by
  simp only[ED,and_eq_true,bne_iff_ne,ne_eq,beq_iff_eq] at hf;obtain⟨⟨⟨⟨hn,hk⟩,Cw⟩,hoff⟩,xH⟩:=hf
  match xs,ys with
  |[],_=>simp[Ew] at hs
  |_::_,[]=>simp[Ew] at hs
  |x::xs,y::ys=>
   simp only[Ew] at hs;split at hs
   .rename_i hc;simp only[and_eq_true] at hc;split at hs
    .rename_i p q h1 h2;injection hs with hs
     obtain⟨v,hv,hrv⟩:=hx 0 x rfl;obtain⟨u,hu,hru⟩:=hy 0 y rfl
     have ih:=PF (n:=n) (vs:=vs) (us:=us) xH h2 (fun j z hz=>by
      obtain⟨v,a,b⟩:=hx (j+1) z (by simpa using hz);exact⟨v,by rwa [show off+1+j=off+(j+1) by omega],b⟩) (fun j z hz=>by
      obtain⟨v,a,b⟩:=hy (j+1) z (by simpa using hz)
      exact⟨v,by rwa [show off+1+j=off+(j+1) by omega],b⟩)
     simp only[add_zero] at hv hu;subst hoff;simp only[Op.eqFields,ne_eq,hn,not_false_eq_true,if_true,Sem.run_bind,Gp hk hv,Gp hk hu,Result.andThen,SG n hk hc.1 hc.2 h1 hrv hru];subst hs;cases p
     .simp
     .simpa using ih
    .cases hs
   .cases hs
theorem Zq{t:TypeId}{ks:List SK}{xs ys:List D}{vs us:Array Value}{r:Bool}{n:Nat}(ht:Q6 P t ks=true)(hs:Ew ks xs ys=some r)
  (hu:Rel dp F G w (.agg vs) (.agg xs)) (hv:Rel dp F G w (.agg us) (.agg ys)):(Op.equalIn (n+2) t (.agg vs) (.agg us)).run P w=.ok r w/\P.eqGuardType P.depth t=false:=by
 have gx:∀{vs:Array Value} {xs:List D},Rel dp F G w (.agg vs) (.agg xs)->∀(j:Nat) (x:D),xs[j]? = some x->∃v,vs[j]? = some v/\Rel dp F G w v x:=by
  intro vs xs h j x hx;cases h with
  |agg _ _ hl h=>
   have Ap:j<vs.size:=by rw[hl];exact(gB.1 hx).1
   exact⟨vs[j],Array.getElem?_eq_getElem Ap,h j _ x (Array.getElem?_eq_getElem Ap) hx⟩
 unfold Q6 at ht;split at ht
 .rename_i fs YO;simp only[and_eq_true,not_eq_true'] at ht;obtain⟨⟨h1,h2⟩,h3⟩:=ht;refine⟨?_,h2⟩;have hfo:P.fieldsOf t=fs:=by simp[Program.fieldsOf,YO]
  have ai:P.underlying t=some (.struct (P.fieldsOf t)):=by rw[hfo];exact YO
  rw[run_equalIn_struct w (n+1) t vs us ai h1,hfo];exact PF h3 hs (fun j x hx=>by rw[zero_add];exact gx hu j x hx) (fun j x hx=>by rw[zero_add];exact gx hv j x hx)
 .rename_i m e he;simp only[and_eq_true,not_eq_true',beq_iff_eq] at ht;obtain⟨⟨⟨⟨rfl,h2⟩,h3⟩,h4⟩,h5⟩:=ht;refine⟨?_,h2⟩
  match ks,h3 with
  |[k1,k2],_=>
   obtain⟨l1,l2⟩:=K5 hs
   match xs,l1,ys,l2 with
   |[x1,x2],_,[y1,y2],_=>
    simp only[Ew] at hs;split at hs
    .rename_i hc1;simp only[and_eq_true] at hc1;split at hs
     .rename_i p q hp hq;injection hs with hs
      split at hq
      .rename_i hc2;simp only[and_eq_true] at hc2;split at hq
       .rename_i p2 q2 hp2 Qv;injection hq with hq
        injection Qv with Qv
        subst Qv hq hs;simp only[List.all_cons,all_nil,Bool.and_true,and_eq_true] at h4;obtain⟨v1,a1,b1⟩:=gx hu 0 x1 rfl;obtain⟨v2,a2,b2⟩:=gx hu 1 x2 rfl;obtain⟨u1,c1,e1⟩:=gx hv 0 y1 rfl;obtain⟨u2,c2,e2⟩:=gx hv 1 y2 rfl;have q1:=SG (P:=P) (n:=n) h4.1 hc1.1 hc1.2 hp b1 e1;have q2:=SG (P:=P) (n:=n) h4.2 hc2.1 hc2.2 hp2 b2 e2;obtain⟨m,hm⟩:∃m,m=n+1:=⟨_,rfl⟩
        rw[<-hm] at q1 q2;rw[show n+2=m+1 by omega];have w1:=Gp (P:=P) (w:=w) h4.1 a1;have w2:=Gp (P:=P) (w:=w) h4.2 a2;have w3:=Gp (P:=P) (w:=w) h4.1 c1;have w4:=Gp (P:=P) (w:=w) h4.2 c2;simp only[Op.equalIn,Sem.run_bind,run_underlying he,Result.andThen,BN h5 w,mul_one];simp only[Std.Legacy.Range.forIn_eq_forIn_range',Std.Legacy.Range.size,range'];simp only[forIn_cons,Sem.run_bind,Result.andThen,w1,w3,q1];cases p
        .rfl
        .simp only[Bool.not_true,false_eq_true,if_false,Sem.run_pure,Sem.run_bind,Result.andThen,zero_add,w2,w4,q2];cases p2
         .rfl
         .rfl
       .cases hq
      .cases hq
     .cases hs
    .cases hs
 .cases ht
theorem LG{op:BinOp}{r:Bool}(h:og op (some r)=some d):(op=.eql/\d=.b r)\/(op=.neq/\d=.b (!r)):=by
 unfold og at h;split at h
 .rename_i he;injection he with he;subst he;injection h with h;exact .inl ⟨rfl,h.symm⟩
 .rename_i he;injection he with he;subst he;injection h with h;exact .inr ⟨rfl,h.symm⟩
 .cases h
theorem pur_bin{op:BinOp}{q:Q}{y z:A}(hm:mR P dp o.op (.bin op q y z)=true)(hf:Fr dp F G w a fr)(he:A4 op q (av fr y) (av fr z)=some d):Qe P dp F G w a o d:=by
 simp only[mR] at hm;split at hm
 .rename_i op' t x v ty ho;simp only[and_eq_true,decide_eq_true_eq] at hm;obtain⟨⟨⟨rfl,hq⟩,hx⟩,hv⟩:=hm;have r1:=hf.eval hx;have r2:=hf.eval hv;generalize Lh:a.eval x=v1 at r1;generalize EM:a.eval v=v2 at r2;generalize av fr y=e1 at r1 he;generalize av fr z=e2 at r2 he
  have fin:(∃u,(do eqGuard op t x v v1 v2;binOp op t v1 v2:Sem Value).run P w=.ok u w/\Rel dp F G w u d)->Qe P dp F G w a o d:=by rintro⟨u,hu,hr⟩;refine⟨u,?_,hr⟩;simp only[execOp,ho,Lh,EM,Sem.run_bind,Result.andThen] at hu ⊢;rw[hu];rfl
  apply fin;clear fin;unfold A4 at he;split at he
  ·
   cases r1;cases r2;simp only[eqGuard_at_int,pure_bind];split at he
   .exact Zd t he (.inl rfl)
   .exact Zd t he (.inr rfl)
   .rename_i h1 h2;split at he
    .rename_i hk;subst hk;exact mz t he (fun h=>h1 h) (fun h=>h2 h)
    .cases he
  ·
   cases r1;cases r2;rename_i l m;simp only[eqGuard_at_string,pure_bind];have hl:(⟨l.toArray⟩:ByteArray).toList=l:=by simp[ByteArray.toList_eq]
   have hm:(⟨m.toArray⟩:ByteArray).toList=m:=by simp[ByteArray.toList_eq]
   have hsl:(⟨l.toArray⟩:ByteArray).size=l.length:=by show l.toArray.size=_;simp
   have hsm:(⟨m.toArray⟩:ByteArray).size=m.length:=by show m.toArray.size=_;simp
   split at he
   .split at he
    .rename_i hle;injection he with he;subst he
     refine⟨.string ⟨(l++m).toArray⟩,?_,.s _⟩
     have:¬((l.length+m.length:Nat):Int)>IntKind.i64.max:=by
      have e:IntKind.i64.max=9223372036854775807:=by decide
      rw[e];omega
     have ha:(⟨l.toArray⟩:ByteArray)++⟨m.toArray⟩=⟨(l++m).toArray⟩:=by apply ByteArray.ext;rw[ByteArray.data_append];simp
     simp only[binOp,Op.stringOp,hsl,hsm,if_neg this,ha,Sem.run_pure]
    .cases he
   .injection he with he;subst he
    exact⟨_,by simp only[binOp,Op.stringOp,hl,hm,Sem.run_pure],.b _⟩
   .injection he with he;subst he
    exact⟨_,by simp only[binOp,Op.stringOp,hl,hm,Sem.run_pure],.b _⟩
   .injection he with he;subst he
    exact⟨_,by simp only[binOp,Op.stringOp,hl,hm,Sem.run_pure],.b _⟩
   .cases he
  ·
   cases r1;cases r2;rename_i p q;simp only[eqGuard_at_bool,pure_bind]
   have hu:P.underlying t=some .bool:=by
    simp only[mQ,mU] at hq;split at hq
    .rename_i td Jr;split at hq
     .exact Jr
     .cases hq
    .cases hq
   have Ei:(Op.equal t (.bool p) (.bool q)).run P w=.ok (p==q) w:=run_equalIn_bool' w 9999 t p q hu;rcases LG he with⟨rfl,rfl⟩|⟨rfl,rfl⟩
   .exact⟨.bool (p==q),by simp only[binOp,Sem.run_bind,Ei,Result.andThen,Sem.run_pure],.b _⟩
   .exact⟨.bool (!(p==q)),by simp only[binOp,Sem.run_bind,Ei,Result.andThen,Sem.run_pure],.b _⟩
  ·
   rename_i ks xs ys;have fU:Q6 P t ks=true:=hq;cases hsq:Ew ks xs ys with
   |none=>rw[hsq] at he;unfold og at he;split at he<;>simp_all
   |some r=>
    rw[hsq] at he;have hr1:=r1;have xI:=r2;cases r1 with
    |agg vs _ pE h1=>
     cases r2 with
     |agg us _ YB h2=>
      obtain⟨e1,e2⟩:=Zq (P:=P) (n:=9998) fU hsq hr1 xI;have g1:=run_eqGuard_agg w op t x v vs us e2;rcases LG he with⟨rfl,rfl⟩|⟨rfl,rfl⟩
      .refine⟨.bool r,?_,.b _⟩;rw[Sem.run_bind,g1,Result.andThen,run_eql_struct,e1];rfl
      .refine⟨.bool (!r),?_,.b _⟩;rw[Sem.run_bind,g1,Result.andThen,run_neq_struct,e1];rfl
  ·
   obtain⟨el,hu⟩:∃el,P.underlying t=some (.slice el):=by
    simp only[mQ,mU] at hq;split at hq
    .rename_i td Jr;split at hq
     .exact⟨_,Jr⟩
     .cases hq
    .cases hq
   cases r2;cases r1
   .simp only[eqGuard_at_slice,pure_bind];have Ei:(Op.equal t (.slice none 0 0) (.slice none 0 0)).run P w=.ok true w:=Gf 9999 hu none 0 0;rcases LG he with⟨rfl,rfl⟩|⟨rfl,rfl⟩
    .exact⟨.bool true,by simp only[binOp,Sem.run_bind,Ei,Result.andThen,Sem.run_pure],.b _⟩
    .exact⟨.bool false,by simp only[binOp,Sem.run_bind,Ei,Result.andThen,Sem.run_pure];rfl,.b _⟩
   .rename_i blk off cap c hk Eh h1 h2 ho;simp only[eqGuard_at_slice,pure_bind];have Ei:∀n,(Op.equal t (.slice (some ⟨blk,off,none⟩) n cap) (.slice none 0 0)).run P w=.ok false w:=fun n=>Gf 9999 hu _ n cap;rcases LG he with⟨rfl,rfl⟩|⟨rfl,rfl⟩
    .exact⟨.bool false,by simp only[binOp,Sem.run_bind,Ei,Result.andThen,Sem.run_pure],.b _⟩
    .exact⟨.bool true,by simp only[binOp,Sem.run_bind,Ei,Result.andThen,Sem.run_pure];rfl,.b _⟩
   .rename_i ad cap;simp only[eqGuard_at_slice,pure_bind];have Ei:(Op.equal t (.slice (some ad) 0 cap) (.slice none 0 0)).run P w=.ok false w:=Gf 9999 hu _ 0 cap;rcases LG he with⟨rfl,rfl⟩|⟨rfl,rfl⟩
    .exact⟨.bool false,by simp only[binOp,Sem.run_bind,Ei,Result.andThen,Sem.run_pure],.b _⟩
    .exact⟨.bool true,by simp only[binOp,Sem.run_bind,Ei,Result.andThen,Sem.run_pure];rfl,.b _⟩
  ·
   obtain⟨k,el,hu⟩:∃k el,P.underlying t=some (.map k el):=by
    simp only[mQ,mU] at hq;split at hq
    .rename_i td Jr;split at hq
     .exact⟨_,_,Jr⟩
     .cases hq
    .cases hq
   cases r1;cases r2;simp only[eqGuard_at_map,pure_bind];have Ei:(Op.equal t (.map none) (.map none)).run P w=.ok true w:=Le 9999 hu none;rcases LG he with⟨rfl,rfl⟩|⟨rfl,rfl⟩
   .exact⟨.bool true,by simp only[binOp,Sem.run_bind,Ei,Result.andThen,Sem.run_pure],.b _⟩
   .exact⟨.bool false,by simp only[binOp,Sem.run_bind,Ei,Result.andThen,Sem.run_pure];rfl,.b _⟩
  .obtain⟨k,el,hu⟩:∃k el,P.underlying t=some (.map k el):=by
    simp only[mQ,mU] at hq;split at hq
    .rename_i td Jr;split at hq
     .exact⟨_,_,Jr⟩
     .cases hq
    .cases hq
   cases r1;cases r2;rename_i id g hg;simp only[eqGuard_at_map,pure_bind];have Ei:(Op.equal t (.map (some g.blk)) (.map none)).run P w=.ok false w:=Le 9999 hu _;rcases LG he with⟨rfl,rfl⟩|⟨rfl,rfl⟩
   .exact⟨.bool false,by simp only[binOp,Sem.run_bind,Ei,Result.andThen,Sem.run_pure],.b _⟩
   .exact⟨.bool true,by simp only[binOp,Sem.run_bind,Ei,Result.andThen,Sem.run_pure];rfl,.b _⟩
  .cases he
 .cases hm
end
end
section
open Go
variable [Ga]
section
variable {P:Program}{dp:Nat->Option Fn}{F F':GD}{G G':List Gh}{w w':World}{S S':A1}{a:Act}{fr:List D}{o:Oper}{d:D}
theorem AAj{vs:Array Value}{xs:List D}(h:Rel dp F G w (.agg vs) (.agg xs)):vs.size=xs.length/\∀(j:Nat) (x:D),xs[j]? = some x->∃v,vs[j]? = some v/\Rel dp F G w v x:=by
 cases h with
 |agg _ _ hl h=>
  refine⟨hl,fun j x hx=>?_⟩;have Ap:j<vs.size:=by rw[hl];exact(gB.1 hx).1
  exact⟨vs[j],Array.getElem?_eq_getElem Ap,h j _ x (Array.getElem?_eq_getElem Ap) hx⟩
theorem Mf{v:Value}{xs:List D}(h:Rel dp F G w v (.agg xs)):∃vs,v=.agg vs:=by cases h;exact⟨_,rfl⟩
theorem HQ{t:TypeId}{k:SK}{v:Value}(e:Bool)(n:Nat)(ht:lU P t k=true):(Instr.checkKey e (n+1) t v).run P w=.ok () w:=by
 cases k with
 |i=>
  obtain⟨k,Jr⟩:=Yh ht;simp only[Instr.checkKey,Sem.run_bind,run_underlying Jr,Result.andThen];rfl
 |b=>
  simp only[Instr.checkKey,Sem.run_bind,run_underlying (Zh ht),Result.andThen];rfl
 |s=>
  simp only[Instr.checkKey,Sem.run_bind,run_underlying (Z3 ht),Result.andThen];rfl
theorem P0:∀{ks:List SK} {xs:List D},VF ks xs=true->xs.length=ks.length
 |[],[],_=>rfl
 |[],_::_,h=>by simp[VF] at h
 |_::_,[],h=>by simp[VF] at h
 |_::ks,_::xs,h=>by simp only[VF,and_eq_true] at h;simp[P0 h.2]
theorem Lf{vs:Array Value}{e:Bool}{n:Nat}:∀{fs:List Field} {off:Nat} {ks:List SK} {xs:List D},ED P fs off ks=true->xs.length=ks.length ->
  (∀(j:Nat) (x:D),xs[j]? = some x->∃v,vs[off+j]? = some v/\Rel dp F G w v x) ->
  (forIn fs PUnit.unit fun f _=>(do
   if f.name ≠ "_" then
    let x <-part f.type vs f.offset
    Instr.checkKey e (n+1) f.type x
    pure (ForInStep.yield PUnit.unit)
   else pure (ForInStep.yield PUnit.unit):Sem (ForInStep PUnit))).run P w=.ok PUnit.unit w
 |[],_,_,_,_,_,_=>rfl
 |_::_,_,[],_,hf,_,_=>by simp[ED] at hf
 |f::fs,off,k::ks,xs,hf,hl,hx=>by
  simp only[ED,and_eq_true,bne_iff_ne,ne_eq,beq_iff_eq] at hf;obtain⟨⟨⟨⟨hn,hk⟩,Cw⟩,hoff⟩,xH⟩:=hf
  match xs with
  |[]=>simp at hl
  |x::xs=>
   obtain⟨v,hv,hrv⟩:=hx 0 x rfl
   have ih:=Lf (e:=e) (n:=n) (vs:=vs) (xs:=xs) xH (by simpa using hl) (fun j z hz=>by
      obtain⟨v,a,b⟩:=hx (j+1) z (by simpa using hz)
      exact⟨v,by rwa [show off+1+j=off+(j+1) by omega],b⟩)
   simp only[add_zero] at hv;subst hoff;simp only[forIn_cons,ne_eq,hn,not_false_eq_true,if_true,Sem.run_bind,Gp hk hv,Result.andThen,HQ e n hk,Sem.run_pure];simpa only[ne_eq] using ih
theorem run_checkKey{t:TypeId}{kk:KK}{x:D}{v:Value}(e:Bool)(n:Nat)(ht:UQ P t kk=true)(hx:isKey kk x=true)(hr:Rel dp F G w v x) :
  (Instr.checkKey e (n+2) t v).run P w=.ok () w:=by
 cases kk with
 |one k=>exact HQ e (n+1) ht
 |agg ks=>
  cases x<;>simp[isKey] at hx;rename_i xs;obtain⟨vs,rfl⟩:=Mf hr;obtain⟨Cw,hg⟩:=AAj hr;have hl:=P0 hx;simp only[UQ] at ht;unfold Q6 at ht;split at ht
  .rename_i fs YO;simp only[and_eq_true,not_eq_true'] at ht;rw[Instr.checkKey];simp only[Sem.run_bind,run_underlying YO,Result.andThen];rw[<-Array.forIn_toList];have:=Lf (P:=P) (e:=e) (n:=n) (vs:=vs) (off:=0) ht.2 hl (fun j x hx=>by rw[zero_add];exact hg j x hx);simp only[Sem.run_bind,this,Result.andThen,Sem.run_pure]
  .rename_i m el he;simp only[and_eq_true,not_eq_true',beq_iff_eq] at ht;obtain⟨⟨⟨⟨rfl,h2⟩,h3⟩,h4⟩,h5⟩:=ht
   match ks,h3 with
   |[k1,k2],_=>
    match xs,hl with
    |[x1,x2],_=>
     simp only[List.all_cons,all_nil,Bool.and_true,and_eq_true] at h4;obtain⟨v1,a1,b1⟩:=hg 0 x1 rfl;obtain⟨v2,a2,b2⟩:=hg 1 x2 rfl;have w1:=Gp (P:=P) (w:=w) h4.1 a1;have w2:=Gp (P:=P) (w:=w) h4.2 a2;obtain⟨m,hm⟩:∃m,m=n+1:=⟨_,rfl⟩
     have q1:=HQ (P:=P) (w:=w) (v:=v1) e n h4.1;have q2:=HQ (P:=P) (w:=w) (v:=v2) e n h4.2;rw[<-hm] at q1 q2;rw[show n+2=m+1 by omega,Instr.checkKey];simp only[Sem.run_bind,run_underlying he,Result.andThen,BN h5 w,mul_one];simp only[Std.Legacy.Range.forIn_eq_forIn_range',Std.Legacy.Range.size,range'];simp only[forIn_cons,List.forIn_nil,Sem.run_bind,Result.andThen,BN h5 w,mul_one,w1,q1,Sem.run_pure,zero_add,w2,q2]
  .cases ht
def O3(dp:Nat->Option Fn)(F:GD)(G:List Gh)(w:World)(l:List MapEntry)(es:List (D×D)):Prop:=
 l.length=es.length/\∀(j:Nat) (e:MapEntry) (d:D×D),l[j]? = some e->es[j]? = some d->Rel dp F G w e.key d.1/\Rel dp F G w e.val d.2
theorem O3.tail{e:MapEntry}{l:List MapEntry}{x:D×D}{es:List (D×D)}(h:O3 dp F G w (e::l) (x::es)):O3 dp F G w l es:=
 ⟨by simpa using h.1,fun j e d he hd=>h.2 (j+1) e d (by simpa using he) (by simpa using hd)⟩
theorem O3.head{e:MapEntry}{l:List MapEntry}{x:D×D}{es:List (D×D)}(h:O3 dp F G w (e::l) (x::es)):Rel dp F G w e.key x.1/\Rel dp F G w e.val x.2:=h.2 0 e x rfl rfl
def hit(l:List MapEntry)(j:Nat):Option Nat->Option (Nat×Value)
 |none=>none
 |some p=>some (p,((l[p-j]?).map (·.val)).getD undef)
theorem ZU(e:MapEntry)(l:List MapEntry)(j:Nat)(r:Option Nat)(h:∀p,r=some p->j+1<=p):hit (e::l) j r=hit l (j+1) r:=by
 cases r with
 |none=>rfl
 |some p=>
  have:=h p rfl;simp only[hit];rw[show p-j=(p-(j+1))+1 by omega];simp
theorem Vs{kk:KK}{key:D}:∀{es:List (D×D)} {j:Nat} {p:Nat},Hf kk key es j=some (some p)->j<=p
 |[],_,_,h=>by simp[Hf] at h
 |(k,_)::es,j,p,h=>by
  simp only[Hf] at h;split at h
  .injection h with h;injection h with h;omega
  .have:=Vs h;omega
  .cases h
theorem QC{k:SK}{t:TypeId}{td:TypeDesc}{key:D}{u:Value}(ht:lU P t k=true)(Jr:P.underlying t=some td)(hr:Rel dp F G w u key) :
  ∀{l:List MapEntry} {es:List (D×D)} {j:Nat} {r:Option Nat},O3 dp F G w l es->Hf (.one k) key es j=some r->Instr.findNow td u l j=some (hit l j r)
 |[],[],j,r,_,h=>by simp only[Hf] at h;injection h with h;subst h;rfl
 |[],_::_,_,_,he,_=>by simp[O3] at he
 |_::_,[],_,_,he,_=>by simp[O3] at he
 |e::l,(x,v)::es,j,r,he,h=>by
  obtain⟨hk,hv⟩:=he.head
  have same:∀b,QZ (.one k) key x=some b->Instr.sameNow td u e.key=some b:=by
   intro b hb;simp only[QZ] at hb;split at hb
   .rename_i hc;simp only[and_eq_true] at hc;cases k with
    |i=>
     obtain⟨q,hq⟩:=Yh ht;rw[Jr] at hq;injection hq with hq;subst hq;cases hr<;>simp[HV] at hc;generalize e.key=ek at hk;cases hk<;>simp[HV] at hc;simpa[Instr.sameNow,seq1] using hb
    |b=>
     have hq:=Zh ht;rw[Jr] at hq;injection hq with hq;subst hq
     cases hr<;>simp[HV] at hc;generalize e.key=ek at hk;cases hk<;>simp[HV] at hc;simpa[Instr.sameNow,seq1] using hb
    |s=>
     have hq:=Z3 ht;rw[Jr] at hq;injection hq with hq;subst hq
     cases hr<;>simp[HV] at hc;generalize e.key=ek at hk;cases hk<;>simp[HV] at hc;rename_i p q;simp only[seq1] at hb;injection hb with hb
     subst hb;simp only[Instr.sameNow];rw[beq_toListBytes];simp[ByteArray.toList_eq]
   .cases hb
  simp only[Hf] at h;split at h
  .rename_i hb;injection h with h;subst h
   simp only[Instr.findNow,same _ hb,hit,sub_self];rfl
  .rename_i hb;simp only[Instr.findNow,same _ hb];rw[QC ht Jr hr he.tail h,ZU];rintro p rfl;exact Vs h
  .cases h
theorem Lz{ks:List SK}{t:TypeId}{key:D}{u:Value}(ht:Q6 P t ks=true)(hr:Rel dp F G w u key) :
  ∀{l:List MapEntry} {es:List (D×D)} {j:Nat} {r:Option Nat},O3 dp F G w l es->Hf (.agg ks) key es j=some r->(Instr.findAsking t u l j).run P w=.ok (hit l j r) w
 |[],[],j,r,_,h=>by simp only[Hf] at h;injection h with h;subst h;rfl
 |[],_::_,_,_,he,_=>by simp[O3] at he
 |_::_,[],_,_,he,_=>by simp[O3] at he
 |e::l,(x,v)::es,j,r,he,h=>by
  obtain⟨hk,hv⟩:=he.head
  have same:∀b,QZ (.agg ks) key x=some b->(Op.equal t u e.key).run P w=.ok b w:=by
   intro b hb;cases key<;>simp only[QZ] at hb<;>try (cases hb;done)
   cases x<;>simp only at hb<;>try (cases hb;done)
   obtain⟨vs,rfl⟩:=Mf hr;obtain⟨us,hus⟩:=Mf hk;simp only at hk hus;rw[hus] at hk ⊢;exact(Zq (P:=P) (n:=9998) ht hb hr hk).1
  simp only[Hf] at h;split at h
  .rename_i hb;injection h with h;subst h
   simp only[Instr.findAsking,Sem.run_bind,same _ hb,Result.andThen,if_true,Sem.run_pure,hit,sub_self];rfl
  .rename_i hb;simp only[Instr.findAsking,Sem.run_bind,same _ hb,Result.andThen,false_eq_true,if_false];rw[Lz ht hr he.tail h,ZU];rintro p rfl;exact Vs h
  .cases h
theorem OL{kk:KK}{t:TypeId}{key:D}{u:Value}{l:List MapEntry}{es:List (D×D)}{r:Option Nat}(ht:UQ P t kk=true)(hr:Rel dp F G w u key)(oN:isKey kk key=true)
  (he:O3 dp F G w l es) (h:Hf kk key es 0=some r):(Instr.findKey t u l).run P w=.ok (hit l 0 r) w:=by
 cases kk with
 |one k=>
  have hT:∃td,P.underlying t=some td:=by
   cases k with
   |i=>obtain⟨q,hq⟩:=Yh ht;exact⟨_,hq⟩
   |b=>exact⟨_,Zh ht⟩
   |s=>exact⟨_,Z3 ht⟩
  obtain⟨td,Jr⟩:=hT;simp only[Instr.findKey,Sem.run_bind,run_underlying Jr,Result.andThen,QC ht Jr hr he h,Sem.run_pure]
 |agg ks=>
  simp only[UQ] at ht
  have hT:∃td,P.underlying t=some td/\∀v u,(∃vs,v=Value.agg vs)->Instr.sameNow td v u=none:=by
   unfold Q6 at ht;split at ht
   .rename_i fs YO;refine⟨_,YO,?_⟩;rintro _ u ⟨vs,rfl⟩;simp[Instr.sameNow]
   .rename_i n e YO;refine⟨_,YO,?_⟩;rintro _ u ⟨vs,rfl⟩;simp[Instr.sameNow]
   .cases ht
  obtain⟨td,Jr,xJ⟩:=hT;cases key<;>simp[isKey] at oN;have hag:=Mf hr;cases l with
  |nil=>
   cases es with
   |nil=>
    simp only[Hf] at h;injection h with h;subst h
    simp only[Instr.findKey,Sem.run_bind,run_underlying Jr,Result.andThen,Instr.findNow,Sem.run_pure,hit]
   |cons _ _=>simp[O3] at he
  |cons e l=>
   simp only[Instr.findKey,Sem.run_bind,run_underlying Jr,Result.andThen,Instr.findNow,xJ u e.key hag];exact Lz ht hr he h
theorem ke{kk:KK}{key:D}:∀{es:List (D×D)} {r:Option D} (j:Nat),yF kk key es=some r->∃p,Hf kk key es j=some p /\
  ((r=none/\p=none)\/∃q k v,r=some v/\p=some (j+q)/\es[q]? = some (k,v))
 |[],r,j,h=>by
  simp only[yF] at h;injection h with h
  exact⟨none,rfl,.inl ⟨h.symm,rfl⟩⟩
 |(k,v)::es,r,j,h=>by
  simp only[yF] at h;split at h
  .rename_i hk;injection h with h
   exact⟨some j,by simp[Hf,hk],.inr ⟨0,k,v,h.symm,rfl,rfl⟩⟩
  .rename_i hk;obtain⟨p,hp,hh⟩:=ke (j+1) h;refine⟨p,by simp[Hf,hk,hp],?_⟩;rcases hh with hh|⟨q,k',v',h1,h2,h3⟩
   .exact .inl hh
   .exact .inr ⟨q+1,k',v',h1,by rw[h2];congr 1;omega,by simpa using h3⟩
  .cases h
theorem Uh{t:TypeId}{z:D}(h:mZ1 P t z=true):∃v,(zeroValue t).run P w=.ok v w/\Rel dp F G w v z:=by
 unfold mZ1 at h;split at h
 .rename_i i hi;split at h
  .rename_i v hv;exact⟨v,by simp only[zeroValue,typeInfo,Sem.run_bind,run_program,Result.andThen,hi,hv,Sem.run_pure],vF h⟩
  .cases h
 .cases h
theorem vr{id:Nat}{g:Gh}{es:List (D×D)}(hs:BX dp F G w S)(K9:AA S id=some (.map es))(hg:AA G id=some g) :
  ∃Bv:Array MapEntry,w.heap[g.blk]? = some (.map Bv es.length)/\Bv.size=es.length/\O3 dp F G w Bv.toList es/\∀(j:Nat) (e:MapEntry),Bv[j]? = some e->e.born=j:=by
 obtain⟨Bv,h1,h2,h3⟩:=hs.aV id _ g K9 hg;refine⟨Bv,h1,h2,⟨by simpa using h2,fun j e d he hd=>(h3 j e d (by simpa using he) hd).2⟩,fun j e he=>?_⟩;have Ap:j<es.length:=by rw[<-h2];exact(Array.getElem?_eq_some_iff.1 he).1
 exact(h3 j e es[j] he (gA Ap)).1
theorem GJ{r:Nat}{es:Array MapEntry}{c:Nat}(h:w.heap[r]? = some (.map es c)):(getObj r).run P w=.ok (.map es c) w:=by simp only[getObj,Sem.run,h]
def lkRes(ok:Bool)(z:D):Option D->D
 |some v=>if ok then .AY [v,.b true] else v
 |none=>if ok then .AY [z,.b false] else z
def zl(kk:KK)(S:A1)(key m:D):Option (Option D):=
 match m with
 |.Cy=>some none
 |.mp id=>match AA S id with
  |some (.map es)=>yF kk key es
  |_=>none
 |_=>none
theorem Rf{u v:Value}{x y:D}(h1:Rel dp F G w u x)(h2:Rel dp F G w v y):Rel dp F G w (.tuple #[u,v]) (.AY [x,y]):=by
 refine .AY _ _ rfl fun j v d hv hd=>?_
 match j with
 |0=>simp at hv hd;subst hv hd;exact h1
 |1=>simp at hv hd;subst hv hd;exact h2
 |j+2=>simp at hd
theorem cq{kk:KK}{ok:Bool}{z:D}{m key:A}{r:Option D}(hm:mR P dp o.op (.lk kk ok z m key)=true)(hs:BX dp F G w S)(hf:Fr dp F G w a fr)(hk:isKey kk (av fr key)=true)
  (he:zl kk S (av fr key) (av fr m)=some r):Qe P dp F G w a o (lkRes ok z r):=by
 simp only[mR] at hm;split at hm
 .rename_i t x i ok' ho;simp only[and_eq_true,beq_iff_eq] at hm;obtain⟨⟨⟨rfl,ht⟩,hx⟩,hi⟩:=hm;split at ht
  .rename_i kt et hu;simp only[and_eq_true] at ht;obtain⟨oO,hz⟩:=ht;have r1:=hf.eval hx;have r2:=hf.eval hi;generalize Lh:a.eval x=v1 at r1;generalize EM:a.eval i=v2 at r2;generalize av fr key=kd at r2 hk he;generalize av fr m=md at r1 he;obtain⟨zv,hzr,VY⟩:=Uh (P:=P) (dp:=dp) (F:=F) (G:=G) (w:=w) hz
   have aW:Rel dp F G w (if ok then .tuple #[zv,.bool false] else zv) (lkRes ok z none):=by
    cases ok
    .exact VY
    .exact Rf VY (.b _)
   unfold zl at he;cases r1<;>simp only at he<;>try (cases he;done)
   .injection he with he;subst he
    refine⟨_,?_,aW⟩;have oP:=OL (P:=P) (t:=kt) (es:=[]) (l:=[]) oO r2 hk ⟨rfl,fun j e d h=>by simp at h⟩ (r:=none) rfl;have UF:=fun b=>run_checkKey (P:=P) (w:=w) b 9998 oO hk r2;simp only[execOp,ho,Lh,EM,Instr.lookup,Sem.run_bind,run_underlying hu,Result.andThen,Sem.run_pure,UF,oP,hit,hzr]
   .rename_i id g hg;split at he
    .rename_i es K9;obtain⟨Bv,h1,h2,h3,h4⟩:=vr hs K9 hg;obtain⟨p,hp,hh⟩:=ke 0 he;have oP:=OL (P:=P) (t:=kt) oO r2 hk h3 hp;have UF:=fun b=>run_checkKey (P:=P) (w:=w) b 9998 oO hk r2;rcases hh with⟨rfl,rfl⟩|⟨q,k,v,rfl,rfl,hq⟩
     .refine⟨_,?_,aW⟩;simp only[execOp,ho,Lh,EM,Instr.lookup,Sem.run_bind,run_underlying hu,Result.andThen,Sem.run_pure,GJ h1,UF,oP,hit,hzr]
     .have Ap:q<Bv.size:=by rw[h2];exact(gB.1 hq).1
      obtain⟨hkr,hvr⟩:=h3.2 q Bv[q] (k,v) (by simp[Ap]) hq;refine⟨if ok then .tuple #[Bv[q].val,.bool true] else Bv[q].val,?_,?_⟩
      .simp only[execOp,ho,Lh,EM,Instr.lookup,Sem.run_bind,run_underlying hu,Result.andThen,Sem.run_pure,GJ h1,UF,oP,hit];simp[Ap]
      .cases ok
       .exact hvr
       .exact Rf hvr (.b _)
    .cases he
  .cases ht
 .cases hm
end
end
section
open Go
variable [Ga]
section
variable {P:Program}{dp:Nat->Option Fn}{F F':GD}{G G':List Gh}{w w':World}{S S':A1}{a:Act}{fr:List D}{o:Oper}{d:D}
theorem On{b:Nat}{x:Obj}(h:w.heap[b]? = some x):b<w.heap.size:=(Array.getElem?_eq_some_iff.1 h).1
theorem BX.lt(hs:BX dp F G w S){id:Nat}{e:B9}{g:Gh}(h1:AA S id=some e)(h2:AA G id=some g)(hh:holds e):g.blk<w.heap.size:=by
 have:=hs.aV id e g h1 h2;cases e with
 |box cs=>obtain⟨vs,T,h,_⟩:=this;exact On h
 |tok al=>
  cases al with
  |true=>obtain⟨vs,T,h,_⟩:=this;exact On h
  |false=>exact hh.elim
 |map es=>obtain⟨vs,h,_⟩:=this;exact On h
 |gone=>exact hh.elim
theorem BX.Ht(hs:BX dp F G w S){b o:Nat}(h:F b o):b<w.heap.size:=by obtain⟨v,hv⟩:=hs.U1 b o h;exact World.block_lt_of_cell? w _ hv
theorem KV.O7{T:Nat->Prop}{g:Gh}{e:B9}(h:KV dp F G w g e)(hh:holds e)(hG:∀id g,AA G id=some g->AA G' id=some g)
  (hF:∀b o,F b o->F' b o) (Cv:∀b o,F b o->w'.cell? ⟨b,o,none⟩=w.cell? ⟨b,o,none⟩)
  (U2:∀b o,F' b o->F b o\/(T b/\∃v,w'.cell? ⟨b,o,none⟩=some v)) (hb:w'.heap[g.blk]? = w.heap[g.blk]?) (hT:¬T g.blk):KV dp F' G' w' g e:=by
 have hn:∀o,F' g.blk o->F g.blk o:=fun o h=>(U2 _ _ h).resolve_right fun h=>hT h.1;cases e with
 |box cs=>
  obtain⟨vs,T,h1,h2,h3,h4,h5⟩:=h;exact⟨vs,T,hb.trans h1,h2,fun o h=>h3 o (hn o h),h4,fun m v d hv hd=>(h5 m v d hv hd).mono hF hG Cv⟩
 |tok al=>
  cases al with
  |true=>
   obtain⟨vs,T,h1,h2,h3⟩:=h;exact⟨vs,T,hb.trans h1,h2,fun o ho h=>h3 o ho (hn o h)⟩
  |false=>exact hh.elim
 |map es=>
  obtain⟨Bv,h1,h2,h3⟩:=h;exact⟨Bv,hb.trans h1,h2,fun j e d he hd=>⟨(h3 j e d he hd).1,(h3 j e d he hd).2.1.mono hF hG Cv,(h3 j e d he hd).2.2.mono hF hG Cv⟩⟩
 |gone=>exact hh.elim
theorem KV.free{g:Gh}{e:B9}(h:¬holds e):KV dp F G w g e:=by
 cases e with
 |box cs=>exact(h trivial).elim
 |tok al=>
  cases al with
  |true=>exact(h trivial).elim
  |false=>trivial
 |map es=>exact(h trivial).elim
 |gone=>trivial
theorem BX.step(T:Nat->Prop)(hs:BX dp F G w S)(hlen:G'.length=S'.length)(hG:∀id g,AA G id=some g->AA G' id=some g)
  (hF:∀b o,F b o->F' b o) (Cv:∀b o,F b o->w'.cell? ⟨b,o,none⟩=w.cell? ⟨b,o,none⟩)
  (U2:∀b o,F' b o->F b o\/(T b/\∃v,w'.cell? ⟨b,o,none⟩=some v))
  (hheap:∀b,b<w.heap.size->¬T b->w'.heap[b]? = w.heap[b]?)
  (hT:∀b,T b->Mx S G b\/w.heap.size<=b)
  (hent:∀id e g,AA S' id=some e->AA G' id=some g->¬holds e\/(AA S id=some e/\AA G id=some g/\¬T g.blk) \/
   (T g.blk/\KV dp F' G' w' g e/\∀j e' g',j≠id->AA S' j=some e'->AA G' j=some g'->holds e'->¬T g'.blk))
  (MO:w.heap.size<=w'.heap.size) (hos:w'.os=w.os) (l7:w'.tape=w.tape/\Ga.rel w.drawn w'.drawn) (oQ:w'.output=w.output) :
  BX dp F' G' w' S'/\Ext F G w S F' G' w' S':=by
 have xK:∀b,b<w.heap.size->¬Mx S G b->w'.heap[b]? = w.heap[b]?:=by
  intro b hb ho;refine hheap b hb fun h=>?_;rcases hT b h with h|h
  .exact ho h
  .omega
 have Qu:∀b,Mx S' G' b->Mx S G b\/w.heap.size<=b:=by
  rintro b ⟨id,e,g,h1,h2,h3,rfl⟩;rcases hent id e g h1 h3 with h|⟨a1,a2,a3⟩|⟨a1,_,a3⟩
  .exact(h h2).elim
  .exact .inl ⟨id,e,g,a1,h2,a2,rfl⟩
  .exact hT _ a1
 refine⟨⟨hlen,?_,?_,?_,hs.YA.O7 xK Qu MO⟩,⟨hF,hG,Cv,xK,Qu,?_,MO,hos,l7,oQ⟩⟩
 .intro b o h;rcases U2 b o h with h|⟨_,h⟩
  .obtain⟨v,hv⟩:=hs.U1 b o h;exact⟨v,(Cv b o h).trans hv⟩
  .exact h
 .intro id e g h1 h2;rcases hent id e g h1 h2 with h|⟨h3,h4,h5⟩|⟨_,h,_⟩
  .exact KV.free h
  .by_cases hh:holds e
   .exact(hs.aV id e g h3 h4).O7 hh hG hF Cv U2 (hheap _ (hs.lt h3 h4 hh) h5) h5
   .exact KV.free hh
  .exact h
 .intro i j e e' g g' l8 h1 h2 hh hh' hg hg';rcases hent i e g h1 hg with h|⟨a1,a2,a3⟩|⟨a1,_,a3⟩
  .exact(h hh).elim
  .rcases hent j e' g' h2 hg' with h|⟨b1,b2,b3⟩|⟨b1,_,b3⟩
   .exact(h hh').elim
   .exact hs.sep i j e e' g g' l8 a1 b1 hh hh' a2 b2
   .intro heq;exact a3 (heq▸b1)
  .intro heq;exact a3 j e' g' (Ne.symm l8) h2 hg' hh' (heq▸a1)
 .intro b o h;rcases U2 b o h with h|⟨h,_⟩
  .exact .inl h
  .exact .inr (hT b h)
structure Grown(w:World)(x:Obj)(w':World):Prop where
 heap:w'.heap=w.heap.push x
 os:w'.os=w.os
 tape:w'.tape=w.tape/\Ga.rel w.drawn w'.drawn
 output:w'.output=w.output
theorem Bs(w:World)(x:Obj):Grown w x (w.alloc x):=⟨rfl,rfl,⟨rfl,Ga.refl _⟩,rfl⟩
theorem HK(w:World)(x:Obj):Grown w x (w.drew.alloc x):=⟨rfl,rfl,⟨rfl,Ga.succ _⟩,rfl⟩
theorem Grown.old{x:Obj}(h:Grown w x w'){b:Nat}(hb:b<w.heap.size):w'.heap[b]? = w.heap[b]?:=by rw[h.heap,Array.getElem?_push,if_neg (by omega)]
theorem Grown.new{x:Obj}(h:Grown w x w'):w'.heap[w.heap.size]? = some x:=by rw[h.heap,Array.getElem?_push,if_pos rfl]
theorem Grown.cell{x:Obj}(h:Grown w x w'){b o:Nat}(hb:b<w.heap.size):w'.cell? ⟨b,o,none⟩=w.cell? ⟨b,o,none⟩:=
 World.cell?_of_block (a:=⟨b,o,none⟩) (h.old hb)
theorem Grown.size{x:Obj}(h:Grown w x w'):w'.heap.size=w.heap.size+1:=by rw[h.heap,Array.size_push]
theorem BX.push(hs:BX dp F G w S){x:Obj}(hg:Grown w x w'){S0:A1}(YD:S0.length=S.length)(h0:∀id e,AA S0 id=some e->AA S id=some e\/¬holds e)
  (g:Gh) (hgb:g.blk=w.heap.size) (e:B9) (hF:∀b o,F b o->F' b o) (U2:∀b o,F' b o->F b o\/(b=w.heap.size/\∃v,w'.cell? ⟨b,o,none⟩=some v))
  (he:KV dp F' (g::G) w' g e):BX dp F' (g::G) w' (e::S0)/\Ext F G w S F' (g::G) w' (e::S0):=by
 have Ap:∀{j e' g'},j≠S0.length->AA (e::S0) j=some e'->AA (g::G) j=some g'->AA S0 j=some e'/\AA G j=some g':=by intro j e' g' hj h1 h2;simp only[AA] at h1 h2;rw[if_neg hj] at h1;rw[if_neg (by rw[hs.len,<-YD];exact hj)] at h2;exact⟨h1,h2⟩
 have hold:∀{j e' g'},j≠S0.length->AA (e::S0) j=some e'->AA (g::G) j=some g'->holds e'->AA S j=some e'/\AA G j=some g'/\g'.blk<w.heap.size:=by
  intro j e' g' hj h1 h2 hh;obtain⟨a,b⟩:=Ap hj h1 h2;rcases h0 _ _ a with a|a
  .exact⟨a,b,hs.lt a b hh⟩
  .exact(a hh).elim
 refine hs.step (fun b=>b=w.heap.size) (by simp[hs.len,YD]) (fun id g' h=>by rw[BM _ _ _ (AJ h)];exact h) hF
  (fun b o h=>hg.cell (hs.Ht h)) U2 (fun b hb _=>hg.old hb) (fun b h=>.inr (by omega)) ?_ (by rw[hg.size];omega) hg.os hg.tape hg.output
 intro id e' g' h1 h2;by_cases hid:id=S0.length
 .refine .inr (.inr ?_);have e1:e'=e:=by rw[hid,Aj] at h1;injection h1 with h1;exact h1.symm
  have e2:g'=g:=by rw[hid,YD,<-hs.len,Aj] at h2;injection h2 with h2;exact h2.symm
  rw[e1,e2];refine⟨hgb,he,fun j e'' g'' hj h3 h4 hh heq=>?_⟩;have:=(hold (by omega) h3 h4 hh).2.2;omega
 .by_cases hh:holds e'
  .obtain⟨a,b,c⟩:=hold hid h1 h2 hh;exact .inr (.inl ⟨a,b,by omega⟩)
  .exact .inl hh
theorem BX.fixed(hs:BX dp F G w S){x:Obj}(hg:Grown w x w')(hF:∀b o,F b o->F' b o)(U2:∀b o,F' b o->F b o\/(b=w.heap.size/\∃v,w'.cell? ⟨b,o,none⟩=some v)) :
  BX dp F' G w' S/\Ext F G w S F' G w' S:=by
 refine hs.step (fun b=>b=w.heap.size) hs.len (fun id g' h=>h) hF
  (fun b o h=>hg.cell (hs.Ht h)) U2 (fun b hb _=>hg.old hb) (fun b h=>.inr (by omega)) ?_ (by rw[hg.size];omega) hg.os hg.tape hg.output
 intro id e' g' h1 h2;by_cases hh:holds e'
 .have:=hs.lt h1 h2 hh;exact .inr (.inl ⟨h1,h2,by omega⟩)
 .exact .inl hh
structure V9(w:World)(b:Nat)(x:Obj)(w':World):Prop where
 at_:w'.heap[b]? = some x
 other:∀k,k≠b->w'.heap[k]? = w.heap[k]?
 size:w'.heap.size=w.heap.size
 os:w'.os=w.os
 tape:w'.tape=w.tape/\Ga.rel w.drawn w'.drawn
 output:w'.output=w.output
theorem BX.write(hs:BX dp F G w S){id:Nat}{e e':B9}{g:Gh}{x:Obj}(he:AA S id=some e)(hg:AA G id=some g)(hh:holds e)(hw:V9 w g.blk x w')
  (Cv:∀o,F g.blk o->w'.cell? ⟨g.blk,o,none⟩=w.cell? ⟨g.blk,o,none⟩)
  (hF:∀b o,F b o->F' b o) (U2:∀b o,F' b o->F b o\/(b=g.blk/\∃v,w'.cell? ⟨b,o,none⟩=some v))
  (aj:KV dp F' G w' g e'):BX dp F' G w' (sset S id e')/\Ext F G w S F' G w' (sset S id e'):=by
 refine hs.step (fun b=>b=g.blk) (by rw[E6];exact hs.len) (fun _ _ h=>h) hF (fun b o h=>?_) U2 (fun b _ hb=>hw.other b hb)
  (fun b hb=>.inl ⟨id,e,g,he,hh,hg,hb.symm⟩) ?_ (by rw[hw.size];exact Nat.le_refl _) hw.os hw.tape hw.output
 .by_cases hb:b=g.blk
  .subst hb;exact Cv o h
  .exact World.cell?_of_block (a:=⟨b,o,none⟩) (hw.other b hb)
 .intro j e'' g'' h1 h2;rw[AR] at h1;split at h1<;>rename_i hj
  .obtain⟨rfl,hj⟩:=hj;injection h1 with h1;subst h1;rw[hg] at h2;injection h2 with h2;subst h2
   refine .inr (.inr ⟨rfl,aj,fun i e3 g3 l8 h3 h4 hh3 heq=>?_⟩);rw[AR,if_neg (fun h=>l8 h.1)] at h3;exact hs.sep i j e3 e g3 g l8 h3 he hh3 hh h4 hg heq
  .by_cases hh3:holds e''
   .refine .inr (.inl ⟨h1,h2,fun heq=>?_⟩);by_cases hji:j=id
    .exact hj ⟨hji,hji▸AJ h1⟩
    .exact hs.sep j id e'' e g'' g hji h1 he hh3 hh h2 hg heq
   .exact .inl hh3
def Lk(P:Program)(dp:Nat->Option Fn)(F:GD)(G:List Gh)(w:World)(S:A1)(a:Act)(o:Oper)(d:D)(S':A1):Prop:=
 ∀(next:Act->World->Prop) (Q:Exit->Act->World->Prop),(∀v w' F' G',BX dp F' G' w' S'->Ext F G w S F' G' w' S'->Rel dp F' G' w' v d->next (a.put o.dst v) w')->o.wp P a w next Q
theorem Qe.ok(hs:BX dp F G w S)(h:Qe P dp F G w a o d):Lk P dp F G w S a o d S:=by
 intro next Q hn
 obtain⟨v,h1,h2⟩:=h;simp only[Oper.wp,h1,Oper.upon];exact hn v w F G hs (Ext.refl _ _ _ _) h2
theorem B5{v:Value}(h1:(execOp a.eval o).run P w=.ok (.value v) w')(h2:BX dp F' G' w' S'/\Ext F G w S F' G' w' S')(h3:Rel dp F' G' w' v d):Lk P dp F G w S a o d S':=by
 intro next Q hn
 simp only[Oper.wp,h1,Oper.upon];exact hn v w' F' G' h2.1 h2.2 h3
theorem Mg(h1:(execOp a.eval o).run P w=.ok .skip w')(h2:BX dp F' G' w' S'/\Ext F G w S F' G' w' S'):Lk P dp F G w S a o (.AY []) S':=by
 intro next Q hn
 simp only[Oper.wp,h1,Oper.upon];exact hn undef w' F' G' h2.1 h2.2 (.AY #[] [] rfl fun j v d h=>by simp at h)
end
end
section
open Go
variable [Ga]
section
variable {P:Program}{dp:Nat->Option Fn}{F F':GD}{G G':List Gh}{w w':World}{S S':A1}{a:Act}{fr:List D}{o:Oper}{d:D}
def CC(dp:Nat->Option Fn)(F:GD)(G:List Gh)(w:World)(vs:Array Value)(z:List D):Prop:=
 vs.size=z.length/\∀(j:Nat) (v:Value) (d:D),vs[j]? = some v->z[j]? = some d->Rel dp F G w v d
theorem HP : ∀(l:List D) (n j:Nat) (x:D),(Bc l n x)[j]? = if j=n/\n<l.length then some x else l[j]?
 |[],n,j,x=>by simp[Bc]
 |d::l,0,0,x=>by simp[Bc]
 |d::l,0,j+1,x=>by simp[Bc]
 |d::l,n+1,0,x=>by simp[Bc]
 |d::l,n+1,j+1,x=>by simp only[Bc,List.getElem?_cons_succ,HP l n j x];simp
theorem CC.set{vs:Array Value}{z:List D}(h:CC dp F G w vs z)(n:Nat){v:Value}{d:D}(hv:Rel dp F G w v d):CC dp F G w (vs.setIfInBounds n v) (Bc z n d):=by
 refine⟨by simp[C6,h.1],fun j u e hu he=>?_⟩;rw[HP] at he;by_cases hj:j=n
 .subst hj;by_cases Ap:j<z.length
  .rw[if_pos ⟨rfl,Ap⟩] at he;injection he with he;subst he
   rw[Array.getElem?_setIfInBounds_self_of_lt (by rw[h.1];exact Ap)] at hu;injection hu with hu;subst hu
   exact hv
  .rw[if_neg (fun h=>Ap h.2)] at he;have:=(gB.1 he).1;omega
 .rw[if_neg (fun h=>hj h.1)] at he;rw[Array.getElem?_setIfInBounds_ne (Ne.symm hj)] at hu;exact h.2 j u e hu he
theorem NN:∀(ds z:List D) (o:Nat),(Ai z o ds).length=z.length
 |[],_,_=>rfl
 |d::ds,z,o=>by simp only[Ai];rw[NN ds,C6]
theorem CC.Ai{off:Nat}:∀{l:List Value} {ds:List D} {n:Nat} {vs:Array Value} {z:List D},l.length=ds.length->CC dp F G w vs z ->
  (∀(j:Nat) (v:Value) (d:D),l[j]? = some v->ds[j]? = some d->Rel dp F G w v d) ->
  CC dp F G w ((l.zipIdx n).foldl (fun cs (x:Value×Nat)=>cs.setIfInBounds (off+x.2) x.1) vs) (Ai z (off+n) ds)
 |[],[],_,_,_,_,h,_=>h
 |[],_::_,_,_,_,hl,_,_=>by simp at hl
 |_::_,[],_,_,_,hl,_,_=>by simp at hl
 |v::l,d::ds,n,vs,z,hl,h,hr=>by simp only[List.zipIdx_cons,foldl_cons,DE.Ai];rw[add_assoc];exact CC.Ai (l:=l) (ds:=ds) (n:=n+1) (by simpa using hl) (h.set _ (hr 0 v d rfl rfl)) fun j u e hu he=>hr (j+1) u e (by simpa using hu) (by simpa using he)
theorem Yv{off:Nat}(xs vs:Array Value):(xs.zipIdx.foldl (fun cs (c,j)=>cs.setIfInBounds (off+j) c) vs)=((xs.toList.zipIdx 0).foldl (fun cs (x:Value×Nat)=>cs.setIfInBounds (off+x.2) x.1) vs):=by rw[<-Array.foldl_toList,Array.toList_zipIdx]
theorem Uo{off:Nat}:∀(l:List (Value×Nat)) (vs:Array Value),(l.foldl (fun cs (x:Value×Nat)=>cs.setIfInBounds (off+x.2) x.1) vs).size=vs.size
 |[],_=>rfl
 |x::l,vs=>by simp only[foldl_cons];rw[Uo l];simp
theorem mT_k{t:TypeId}{k:Nat}{g:Bool}(h:mT P t k g=true):(if g then k else 1)=k:=by
 cases g
 .have:=(LM h (w:=default)).2 rfl;simp[this]
 .simp
theorem R8{t:TypeId}{k:Nat}{g:Bool}(h:mT P t k g=true):∃i,P.info? t=some i/\i.size=k:=by
 have:=jW h;unfold jw at this;split at this
 .rename_i i hi;exact⟨i,hi,by simpa using this⟩
 .cases this
theorem Nn{place:Nat->Option (Nat×Nat)}{places:List (Nat×TypeId)}(hf:Fr dp F G w a fr)
  (hp:∀i off t k g,places[i]? = some (off,t)->mT P t k g=true->place i=some (off,k)) :
  ∀{parts:List (Nat×Operand)} {ps:List (Nat×Nat×Bool×A)} {cells:Array Value} {z cs:List D},Ni P dp places parts ps=true->Qi fr z ps=some cs->CC dp F G w cells z ->
  ∃Ba,Instr.fill place cells (parts.map fun(i,x)=>(i,a.eval x))=some Ba/\CC dp F G w Ba cs
 |[],[],cells,z,cs,_,hb,h=>by
  simp only[Qi] at hb;injection hb with hb;subst hb
  exact⟨cells,rfl,h⟩
 |[],_::_,_,_,_,hm,_,_=>by simp[Ni] at hm
 |_::_,[],_,_,_,hm,_,_=>by simp[Ni] at hm
 |(i,x)::parts,(off,k,g,y)::ps,cells,z,cs,hm,hb,h=>by
  simp only[Ni,and_eq_true] at hm;obtain⟨⟨h1,h2⟩,h3⟩:=hm;split at h1
  .rename_i off' t ho;simp only[and_eq_true,beq_iff_eq] at h1;obtain⟨rfl,hT⟩:=h1;simp only[Qi] at hb;split at hb
   .rename_i ds hds;split at hb
    .rename_i hle;obtain⟨l1,l2,l3⟩:=LF (hf.eval h2) hds;rw[mT_k hT] at l1
     have Er:=CC.Ai (dp:=dp) (F:=F) (G:=G) (w:=w) (off:=off') (n:=0) (l:=(a.eval x).cells.toList) (ds:=ds) (by simpa using l2) h
      (fun j v d hv hd=>(l3 j v d (by simpa using hv) hd).1)
     rw[add_zero] at Er;obtain⟨Ba,hc,Bg⟩:=Nn hf hp h3 hb Er;refine⟨Ba,?_,Bg⟩
     have Cw:¬((a.eval x).cells.size≠k\/off'+(a.eval x).cells.size>cells.size):=by rw[l2,l1,h.1];omega
     simp only[List.map_cons,Instr.fill,hp i off' t k g ho hT];rw[if_neg (by simpa using Cw),Yv];exact hc
    .cases hb
   .cases hb
  .cases h1
theorem RA{t:TypeId}{z:List D}(h:mZ P t z=true):∃i v,P.info? t=some i/\i.zero=some v/\CC dp F G w v.cells z/\∀u∈v.cells.toList,u.oneCell'=true:=by
 unfold mZ at h;split at h
 .rename_i i hi;split at h
  .rename_i v hv;simp only[and_eq_true,List.all_eq_true] at h;refine⟨i,v,hi,hv,⟨?_,fun j u e hu he=>RF (Rc h.1 (by simpa using hu) he)⟩,h.2⟩;have:=LL h.1;simpa using this
  .cases h
 .cases h
theorem AAT{z:List D}{ps:List (Nat×Nat×Bool×A)}{cs:List D}(hm:mR P dp o.op (.CT z ps)=true)(hf:Fr dp F G w a fr)(he:Qi fr z ps=some cs):Qe P dp F G w a o (.agg cs):=by
 simp only[mR] at hm;split at hm
 .rename_i t parts ho;simp only[and_eq_true] at hm;obtain⟨hz,hm⟩:=hm;obtain⟨i,v,hi,hv,Bg,_⟩:=RA (P:=P) (dp:=dp) (F:=F) (G:=G) (w:=w) hz
  have fin:∀Ba,P.built t (parts.map fun(i,x)=>(i,a.eval x)).toList=some Ba->CC dp F G w Ba cs->Qe P dp F G w a o (.agg cs):=by intro Ba hb hc;refine⟨.agg Ba,?_,.agg _ _ hc.1 hc.2⟩;simp only[execOp,ho,Sem.run_bind,run_build w t _ Ba hb,Result.andThen,Sem.run_pure]
  split at hm
  .rename_i fs hu;simp only[and_eq_true,List.all_eq_true] at hm;obtain⟨KQ,hm⟩:=hm
   have hplaces:fs.toList.mapM (fun f=>(P.info? f.type).map fun i=>(f.offset,i.size))=some (fs.toList.map fun f=>(f.offset,((P.info? f.type).map (·.size)).getD 0)):=by
    generalize fs.toList=l at KQ;clear hm
    induction l with
    |nil=>rfl
    |cons f l ih=>
     have h1:=KQ f (by simp);obtain⟨j,hj⟩:=Option.isSome_iff_exists.1 h1;simp only[List.mapM_cons,hj,ih fun x hx=>KQ x (by simp[hx])];simp[hj]
   obtain⟨Ba,h1,h2⟩:=Nn (P:=P) (place:=fun i=>(fs.toList.map fun f=>(f.offset,((P.info? f.type).map (·.size)).getD 0)).toArray[i]?) hf (fun i off t k g h1 h2=>by
    obtain⟨j,hj,hk⟩:=R8 h2;simp only[List.getElem?_toArray];rw[List.getElem?_map] at h1 ⊢;cases hfi:fs.toList[i]? with
    |none=>simp[hfi] at h1
    |some f=>
     simp only[hfi,map_some,Option.some.injEq,Prod.mk.injEq] at h1;obtain⟨e1,e2⟩:=h1;subst e1 e2
     simp[hj,hk]) hm he Bg
   refine fin Ba ?_ h2;simp only[Program.built,hi,hu,hv,hplaces];simpa using h1
  .rename_i n e hu;split at hm
   .rename_i ie yI
    obtain⟨Ba,h1,h2⟩:=Nn (P:=P) (place:=fun i=>some (i*ie.size,ie.size)) hf (fun i off t k g h1 h2=>by
     obtain⟨j,hj,hk⟩:=R8 h2;rw[List.getElem?_map] at h1;cases hr:(List.range n)[i]? with
     |none=>simp[hr] at h1
     |some q=>
      obtain⟨Ap,hq⟩:=gB.1 hr;simp at hq;simp only[hr,map_some,Option.some.injEq,Prod.mk.injEq] at h1;obtain⟨e1,e2⟩:=h1;subst e2 e1 hq;rw[yI] at hj;injection hj with hj
      rw[hj,hk]) hm he Bg
    refine fin Ba ?_ h2;simp only[Program.built,hi,hu,hv,yI];simpa using h1
   .cases hm
  .cases hm
 .cases hm
theorem Ya{x:Array Value}{T:TypeId}{f:Nat×Nat}(hg:Grown w (.cells x T f) w')(o:Nat):w'.cell? ⟨w.heap.size,o,none⟩=x[o]?:=by simp[World.cell?,hg.new]
def EP(dp:Nat->Option Fn)(F:GD)(G:List Gh)(w:World)(vs:Array Value)(z:List D):Prop:=
 z.length<=vs.size/\∀(j:Nat) (v:Value) (d:D),vs[j]? = some v->z[j]? = some d->Rel dp F G w v d
theorem CC.le{vs:Array Value}{z:List D}(h:CC dp F G w vs z):EP dp F G w vs z:=⟨Nat.le_of_eq h.1.symm,h.2⟩
theorem EP.ext{vs:Array Value}{z:List D}(h:EP dp F G w vs z)(hF:∀b o,F b o->F' b o)(hG:∀id g,AA G id=some g->AA G' id=some g)
  (hw:∀b o,F b o->w'.cell? ⟨b,o,none⟩=w.cell? ⟨b,o,none⟩):EP dp F' G' w' vs z:=⟨h.1,fun j v d hv hd=>(h.2 j v d hv hd).mono hF hG hw⟩
theorem BX.MI(hi:Nat)(hs:BX dp F G w S){vs:Array Value}{T:TypeId}{z:List D}(hg:Grown w (.cells vs T (0,0)) w')(h:EP dp F G w vs z)(h1:∀u∈vs.toList,u.oneCell'=true)
  {S0:A1} (YD:S0.length=S.length) (h0:∀id e,AA S0 id=some e->AA S id=some e\/¬holds e) (hhi:hi<=vs.size) :
  BX dp F (⟨w.heap.size,0,hi⟩::G) w' (.box z::S0)/\Ext F G w S F (⟨w.heap.size,0,hi⟩::G) w' (.box z::S0):=by
 refine hs.push hg YD h0 ⟨w.heap.size,0,hi⟩ rfl (.box z) (fun _ _ h=>h) (fun _ _ h=>.inl h) ⟨vs,T,hg.new,⟨h.1,hhi⟩,fun o ho=>?_,h1,?_⟩
 .have:=hs.Ht ho;simp at this
 .exact(h.ext (fun _ _ h=>h) (fun id g h=>by rw[BM _ _ _ (AJ h)];exact h) fun b o hF=>hg.cell (hs.Ht hF)).2
theorem BX.iS(hs:BX dp F G w S){vs:Array Value}{T:TypeId}{z:List D}(hg:Grown w (.cells vs T (0,0)) w')(h:EP dp F G w vs z)(h1:∀u∈vs.toList,u.oneCell'=true)
  {S0:A1} (YD:S0.length=S.length) (h0:∀id e,AA S0 id=some e->AA S id=some e\/¬holds e) :
  BX dp F (⟨w.heap.size,0,0⟩::G) w' (.box z::S0)/\Ext F G w S F (⟨w.heap.size,0,0⟩::G) w' (.box z::S0):=by
 exact hs.MI 0 hg h h1 YD h0 (zero_le _)
theorem qA{S0:A1}(hs:BX dp F G w S)(YD:S0.length=S.length){g:Gh}{w1:World}{F1:GD}(o:Nat):Rel dp F1 (g::G) w1 (.pointer (some ⟨g.blk,o,none⟩)) (.bx S0.length o):=
 .bx _ _ _ (by rw[YD,<-hs.len,Aj])
theorem vi{z:List D}(hm:mR P dp o.op (.alloc z)=true)(hs:BX dp F G w S):Lk P dp F G w S a o (.bx S.length 0) (.box z::S):=by
 simp only[mR] at hm;split at hm
 .rename_i t ho;obtain⟨i,v,hi,hv,Bg,h1⟩:=RA (P:=P) (dp:=dp) (F:=F) (G:=G) (w:=w) hm;refine B5 (v:=.pointer (some ⟨w.heap.size,0,none⟩)) (w':=w.alloc (.cells v.cells t)) ?_ (hs.iS (Bs _ _) Bg.le h1 rfl fun _ _ h=>.inl h) (qA hs rfl 0);simp only[execOp,ho,Instr.alloc,zeroValue,typeInfo,hi,hv,newVar,newRow,Sem.run_bind,run_program,Sem.run_pure,Result.andThen,run_newObj_alloc]
 .cases hm
theorem V5{k:Nat}{g:Bool}{v:Value}{cs:List D}(h:Rel dp F G w v d)(hc:Am k g d=some cs):CC dp F G w v.cells cs/\∀u∈v.cells.toList,u.oneCell'=true:=by
 obtain⟨l1,l2,l3⟩:=LF h hc;refine⟨⟨l2,fun j v d hv hd=>(l3 j v d hv hd).1⟩,fun u hu=>?_⟩;obtain⟨j,hj,rfl⟩:=getElem_of_mem hu;have hj':j<cs.length:=by rw[<-l2];simpa using hj
 obtain⟨a,b⟩:=l3 j v.cells.toList[j] cs[j] (by rw[<-getElem?_toList];exact gA hj) (gA hj');exact(Lt a b).1
theorem ok_box{k:Nat}{g:Bool}{x:A}{cs:List D}(hm:mR P dp o.op (.box k g x)=true)(hs:BX dp F G w S)(hf:Fr dp F G w a fr)(he:Am k g (av fr x)=some cs) :
  Lk P dp F G w S a o (.bx S.length 0) (.box cs::S):=by
 simp only[mR] at hm;split at hm
 .rename_i t y ho;simp only[and_eq_true] at hm;obtain⟨Bg,h1⟩:=V5 (hf.eval hm.2) he;refine B5 (v:=.pointer (some ⟨w.heap.size,0,none⟩)) (w':=w.alloc (.cells (a.eval y).cells t)) ?_ (hs.iS (Bs _ _) Bg.le h1 rfl fun _ _ h=>.inl h) (qA hs rfl 0);simp only[execOp,ho,Instr.box,newVar,newRow,Sem.run_bind,Sem.run_pure,Result.andThen,run_newObj_alloc]
 .cases hm
theorem xB(hm:mR P dp o.op .Hy=true)(hs:BX dp F G w S):Lk P dp F G w S a o (.mp S.length) (.map []::S):=by
 simp only[mR] at hm;split at hm
 .rename_i t ho
  refine B5 (v:=.map (some w.heap.size)) (w':=w.alloc (.map #[] 0)) ?_ (hs.push (Bs _ _) rfl (fun _ _ h=>.inl h) ⟨w.heap.size,0,0⟩ rfl (.map []) (fun _ _ h=>h) (fun _ _ h=>.inl h)
   ⟨#[],(Bs w _).new,rfl,fun j e d h=>by simp at h⟩) (.mp _ ⟨w.heap.size,0,0⟩ (by rw[<-hs.len,Aj]))
  simp only[execOp,ho,Instr.makeMap,map_none,Sem.run_bind,Sem.run_pure,Result.andThen,run_newObj_alloc]
 .cases hm
end
end
section
open Go
variable [Ga]
section
variable {P:Program}{dp:Nat->Option Fn}{F F':GD}{G G':List Gh}{w w':World}{S S':A1}{a:Act}{fr:List D}{o:Oper}{d:D}
theorem Q9{Z:Type}{k:Nat}(hk:0<k):∀{xs:List (List Z)} (q:Nat),(∀x∈xs,x.length=k)->xs.flatten[q]? = (xs[q/k]?).bind (·[q%k]?)
 |[],q,_=>by simp
 |x::xs,q,h=>by
  have hx:x.length=k:=h x (by simp);rw[List.flatten_cons];by_cases hq:q<k
  .rw[gE (by omega),Nat.div_eq_of_lt hq,Nat.mod_eq_of_lt hq];rfl
  .rw[gF (by omega),hx,Q9 hk (q-k) fun y hy=>h y (by simp[hy])]
   have e1:q/k=(q-k)/k+1:=by have:=Nat.div_eq_sub_div hk (show k<=q by omega);exact this
   have e2:q%k=(q-k)%k:=Nat.mod_eq_sub_mod (by omega);rw[e1,e2];rfl
theorem QW{Z:Type}{k:Nat}:∀{xs:List (List Z)},(∀x∈xs,x.length=k)->xs.flatten.length=xs.length*k
 |[],_=>by simp
 |x::xs,h=>by rw[List.flatten_cons,List.length_append,h x (by simp),QW fun y hy=>h y (by simp[hy]),length_cons,add_mul];omega
def H2(dp:Nat->Option Fn)(F:GD)(G:List Gh)(w:World)(k:Nat)(vs:Array Value)(xs:List (List D)):Prop:=
 (∀x∈xs,x.length=k)/\∀(j:Nat) (x:List D) (m:Nat) (d:D),xs[j]? = some x->x[m]? = some d->∃v,vs[j*k+m]? = some v/\v.oneCell'=true/\Rel dp F G w v d
theorem H2.mono{k:Nat}{vs:Array Value}{xs:List (List D)}(h:H2 dp F G w k vs xs)(hF:∀b o,F b o->F' b o)(hG:∀id g,AA G id=some g->AA G' id=some g)
  (hw:∀b o,F b o->w'.cell? ⟨b,o,none⟩=w.cell? ⟨b,o,none⟩):H2 dp F' G' w' k vs xs:=
 ⟨h.1,fun j x m d hx hd=>by
  obtain⟨v,h1,h2,h3⟩:=h.2 j x m d hx hd
  exact⟨v,h1,h2,h3.mono hF hG hw⟩⟩
theorem lt_mul{j n k m:Nat}(hj:j<n)(hm:m<k):j*k+m<n*k:=by have:(j+1)*k<=n*k:=mul_le_mul_right k hj;rw[add_mul] at this;omega
theorem H2.rel{k:Nat}{vs:Array Value}{xs:List (List D)}{b cap:Nat}{T:TypeId}(h:H2 dp F G w k vs xs)(hb:w.heap[b]? = some (.cells vs T (0,0)))(hF:∀o,o<xs.length*k->F b o)
  (Eh:xs.length<=cap) {ow:JB} (ho:Ts G b (0+xs.length*k) (0+cap*k) cap ow):Rel dp F G w (.slice (some ⟨b,0,none⟩) xs.length cap) (.sl k false xs ow):=by
 refine .sl k xs ow b 0 cap (fun j m=>vs.getD (j*k+m) undef) h.1 Eh (fun j x m d hx hd=>?_) (fun j x m d hx hd=>?_) ho
 .obtain⟨v,h1,h2,h3⟩:=h.2 j x m d hx hd;have hj:=(gB.1 hx).1
  have hm:m<k:=by have:=(gB.1 hd).1;rw[h.1 x (gC hx)] at this;exact this
  have hv:vs.getD (j*k+m) undef=v:=by simp[h1]
  rw[hv,zero_add];exact⟨hF _ (lt_mul hj hm),by rw[Hh hb,h1],h2⟩
 .obtain⟨v,h1,h2,h3⟩:=h.2 j x m d hx hd;have hv:vs.getD (j*k+m) undef=v:=by simp[h1]
  rw[hv];exact h3
def Pd(F:GD)(b n:Nat):GD:=fun b' o=>F b' o\/(b'=b/\o<n)
theorem BX.MW(hs:BX dp F G w S){k cap:Nat}{vs:Array Value}{xs:List (List D)}{T:TypeId}(hg:Grown w (.cells vs T (0,0)) w')(h:H2 dp F G w k vs xs)(Cw:vs.size=cap*k)(Eh:xs.length<=cap)
  {S0:A1} (YD:S0.length=S.length) (h0:∀id e,AA S0 id=some e->AA S id=some e\/¬holds e) :
  (BX dp (Pd F w.heap.size (xs.length*k)) (⟨w.heap.size,xs.length*k,cap*k⟩::G) w' (.tok true::S0) /\
   Ext F G w S (Pd F w.heap.size (xs.length*k)) (⟨w.heap.size,xs.length*k,cap*k⟩::G) w' (.tok true::S0)) /\
  Rel dp (Pd F w.heap.size (xs.length*k)) (⟨w.heap.size,xs.length*k,cap*k⟩::G) w' (.slice (some ⟨w.heap.size,0,none⟩) xs.length cap) (.sl k false xs (.tok S0.length)):=by
 have hle:xs.length*k<=cap*k:=mul_le_mul_right k Eh;refine⟨hs.push hg YD h0 ⟨w.heap.size,xs.length*k,cap*k⟩ rfl (.tok true) (fun _ _ h=>.inl h) (fun b o h=>?_) ⟨vs,T,hg.new,?_,fun o ho hF=>?_⟩,?_⟩
 .rcases h with h|⟨rfl,h⟩
  .exact .inl h
  .exact .inr ⟨rfl,vs[o]'(by omega),by rw[Ya hg];exact Array.getElem?_eq_getElem _⟩
 .show cap*k<=vs.size;omega
 .rcases hF with hF|⟨_,hF⟩
  .have:=hs.Ht hF;simp at this
  .simp only at ho;omega
 .refine H2.rel (h.mono (fun _ _ h=>.inl h) (fun id g h=>by rw[BM _ _ _ (AJ h)];exact h) fun b o hF=>hg.cell (hs.Ht hF)) hg.new (fun o ho=>.inr ⟨rfl,ho⟩) Eh ?_;simp only[Ts,zero_add];rw[YD,<-hs.len,Aj]
theorem BX.dG(hs:BX dp F G w S){k cap:Nat}{vs:Array Value}{xs:List (List D)}{T:TypeId}(hg:Grown w (.cells vs T (0,0)) w')(h:H2 dp F G w k vs xs)(Cw:vs.size=cap*k)(Eh:xs.length<=cap)
  {ow:JB} (how:ow=.ro\/(ow=.G4/\cap=0)) :
  (BX dp (Pd F w.heap.size (xs.length*k)) G w' S/\Ext F G w S (Pd F w.heap.size (xs.length*k)) G w' S) /\
  Rel dp (Pd F w.heap.size (xs.length*k)) G w' (.slice (some ⟨w.heap.size,0,none⟩) xs.length cap) (.sl k false xs ow):=by
 have hle:xs.length*k<=cap*k:=mul_le_mul_right k Eh;refine⟨hs.fixed hg (fun _ _ h=>.inl h) (fun b o h=>?_),?_⟩
 .rcases h with h|⟨rfl,h⟩
  .exact .inl h
  .exact .inr ⟨rfl,vs[o]'(by omega),by rw[Ya hg];exact Array.getElem?_eq_getElem _⟩
 .refine H2.rel (h.mono (fun _ _ h=>.inl h) (fun id g h=>h) fun b o hF=>hg.cell (hs.Ht hF)) hg.new (fun o ho=>.inr ⟨rfl,ho⟩) Eh ?_;rcases how with rfl|⟨rfl,h⟩
  .trivial
  .exact h
theorem Rz{off:Nat}:∀(l:List Value) (n:Nat) (vs:Array Value) (p:Nat),off+n+l.length<=vs.size ->
  ((l.zipIdx n).foldl (fun cs (x:Value×Nat)=>cs.setIfInBounds (off+x.2) x.1) vs)[p]? = if off+n<=p/\p<off+n+l.length then l[p-(off+n)]? else vs[p]?
 |[],n,vs,p,_=>by rw[if_neg (by simp only[length_nil];omega)];rfl
 |v::l,n,vs,p,h=>by
  simp only[length_cons] at h;simp only[List.zipIdx_cons,foldl_cons];rw[Rz l (n+1) _ p (by simp;omega)];by_cases h1:p=off+n
  .subst h1;rw[if_neg (by omega),if_pos (by simp)];simp[show off+n<vs.size by omega]
  .by_cases h2:off+n<=p/\p<off+n+(v::l).length
   .simp only[length_cons] at h2;rw[if_pos (by omega),if_pos (by simp;omega)];rw[show p-(off+n)=(p-(off+(n+1)))+1 by omega];rfl
   .simp only[length_cons] at h2;rw[if_neg (by omega),if_neg (by simp;omega),Array.getElem?_setIfInBounds_ne (Ne.symm h1)]
theorem Nq{k:Nat}{g:Bool}{e:TypeId}(hf:Fr dp F G w a fr)(hT:mT P e k g=true) :
  ∀{parts:List (Nat×Operand)} {ys:List A} {n:Nat} {cells:Array Value} {l:List (List D)},LP dp k g n parts ys=true->Bk fr k g ys=some l->(n+ys.length)*k<=cells.size ->
  ∃Ba,Instr.fill (fun i=>some (i*k,k)) cells (parts.map fun(i,x)=>(i,a.eval x))=some Ba/\Ba.size=cells.size/\l.length=ys.length/\(∀p,p<n*k->Ba[p]? = cells[p]?) /\
   (∀x∈l,x.length=k)/\∀(j:Nat) (x:List D) (m:Nat) (d:D),l[j]? = some x->x[m]? = some d->∃v,Ba[(n+j)*k+m]? = some v/\v.oneCell'=true/\Rel dp F G w v d
 |[],[],n,cells,l,_,hc,_=>by
  simp only[Bk] at hc;injection hc with hc;subst hc
  exact⟨cells,rfl,rfl,rfl,fun _ _=>rfl,by simp,fun j x m d h=>by simp at h⟩
 |[],_::_,_,_,_,hm,_,_=>by simp[LP] at hm
 |_::_,[],_,_,_,hm,_,_=>by simp[LP] at hm
 |(i,x)::parts,y::ys,n,cells,l,hm,hc,Cw=>by
  simp only[LP,and_eq_true,beq_iff_eq] at hm;obtain⟨⟨rfl,h2⟩,h3⟩:=hm;simp only[Bk] at hc;split at hc
  .rename_i ds r hds hr;injection hc with hc;subst hc
   obtain⟨l1,l2,l3⟩:=LF (hf.eval h2) hds;rw[mT_k hT] at l1;simp only[length_cons] at Cw;have hsz1:(i+1)*k<=cells.size:=le_trans (mul_le_mul_right k (by omega)) Cw;rw[add_mul] at hsz1;have hfold:=Uo (off:=i*k) ((a.eval x).cells.toList.zipIdx 0) cells
   obtain⟨Ba,c1,c2,c3,c4,c5,c6⟩:=Nq hf hT h3 hr (cells:=((a.eval x).cells.toList.zipIdx 0).foldl (fun cs (x:Value×Nat)=>cs.setIfInBounds (i*k+x.2) x.1) cells)
    (by rw[hfold];refine le_trans (mul_le_mul_right k ?_) Cw;omega)
   have hn:¬((a.eval x).cells.size≠k\/i*k+(a.eval x).cells.size>cells.size):=by rw[l2,l1];omega
   refine⟨Ba,?_,by rw[c2,hfold],by simp[c3],?_,?_,?_⟩
   .simp only[List.map_cons,Instr.fill];rw[if_neg (by simpa using hn),Yv];exact c1
   .intro p hp;rw[c4 p (by rw[add_mul];omega),Rz _ _ _ _ (by simp[l2,l1];omega),if_neg (by omega)]
   .intro z hz;simp only[List.mem_cons] at hz;rcases hz with rfl|hz
    .exact l1
    .exact c5 z hz
   .intro j z m d hz hd
    match j with
    |0=>
     simp at hz;subst hz;have hm:=(gB.1 hd).1;have hm':m<(a.eval x).cells.size:=by omega
     refine⟨(a.eval x).cells[m],?_,?_⟩
     .rw[add_zero,c4 _ (by rw[add_mul];omega),Rz _ _ _ _ (by simp[l2,l1];omega),if_pos (by simp;omega)];simp[hm']
     .obtain⟨a1,a2⟩:=l3 m _ d (Array.getElem?_eq_getElem hm') hd;exact⟨(Lt a1 a2).1,a1⟩
    |j+1=>
     obtain⟨v,a1,a2⟩:=c6 j z m d (by simpa using hz) hd;exact⟨v,by rw[show i+(j+1)=i+1+j by omega];exact a1,a2⟩
  .cases hc
theorem EJ{k:Nat}{g:Bool}:∀{ys:List A} {l:List (List D)},Bk fr k g ys=some l->l.length=ys.length
 |[],l,h=>by simp only[Bk] at h;injection h with h;subst h;rfl
 |y::ys,l,h=>by
  simp only[Bk] at h;split at h
  .rename_i h1 h2;injection h with h;subst h
   simp[EJ h2]
  .cases h
def W2(k:Nat)(own:Bool)(l:List (List D))(S:A1):D×A1:=
 if own then(if l.isEmpty then(.sl k false [] .G4,S) else(.sl k false l (.tok S.length),.tok true::S)) else(.sl k false l .ro,S)
theorem ok_bsl{k:Nat}{g own:Bool}{ys:List A}{l:List (List D)}(hm:mR P dp o.op (.EZ k g own ys)=true)(hs:BX dp F G w S)(hf:Fr dp F G w a fr)(he:Bk fr k g ys=some l) :
  Lk P dp F G w S a o (W2 k own l S).1 (W2 k own l S).2:=by
 simp only[mR] at hm;split at hm
 .rename_i t len parts ho;split at hm
  .rename_i e hu;simp only[and_eq_true,decide_eq_true_eq,beq_iff_eq] at hm;obtain⟨⟨⟨⟨⟨⟨hT,OK⟩,hk1⟩,rfl⟩,hlen⟩,hz⟩,hel⟩:=hm;obtain⟨ie,yI,Cw⟩:=R8 hT;rw[yI] at hz;dsimp only at hz;split at hz
   .rename_i z hzv;simp only[beq_iff_eq] at hz;have hl:=EJ he;obtain⟨Ba,c1,c2,c3,c4,c5,c6⟩:=Nq (P:=P) (cells:=(Array.range (ys.length*ie.size)).map (z.cells[· % z.cells.size]!)) hf hT hel he (by simp[Cw]);have Hv:H2 dp F G w k Ba l:=⟨c5,fun j x m d hx hd=>by simpa using c6 j x m d hx hd⟩
    have U3:Ba.size=l.length*k:=by rw[c2,hl];simp[Cw]
    have Ei:(execOp a.eval o).run P w=.ok (.value (.slice (some ⟨w.heap.size,0,none⟩) l.length l.length)) (w.alloc (.cells Ba e)):=by
     by_cases h0:ys.length=0
     .have hy:ys=[]:=List.eq_nil_of_length_eq_zero h0;subst hy
      have hp:parts.toList=[]:=by
       cases hp:parts.toList with
       |nil=>rfl
       |cons x l=>rw[hp] at hel;simp[LP] at hel
      have aX:parts = #[]:=by simpa using hp
      subst aX
      have Gu:Ba = #[]:=by rw[<-Array.size_eq_zero_iff,U3,hl];simp
      rw[hl];simp[execOp,ho,Instr.buildSlice,run_underlying hu,sizeOf,typeInfo,yI,Instr.fill,newRow,Gu,Array.range_zero']
     .have hb:=run_buildSlice (P:=P) w t e ys.length (parts.map fun(i,x)=>(i,a.eval x)) Ba ie z hu yI hzv (by
       rw[Cw];have:ys.length*k<=1024*4096:=Nat.mul_le_mul hlen hk1
       omega) (by rw[Cw];exact Nat.mul_ne_zero h0 (by omega)) (by rw[Cw];rw[Cw] at c1;simpa using c1)
      rw[hl];simp only[execOp,ho,Sem.run_bind,hb,Result.andThen,Sem.run_pure]
    unfold W2;cases own with
    |false=>
     obtain⟨h1,h2⟩:=hs.dG (Bs _ _) Hv U3 (Nat.le_refl _) (ow:=.ro) (.inl rfl);exact B5 Ei h1 h2
    |true=>
     simp only[if_true];split
     .rename_i YE;have YD:l=[]:=by simpa using YE
      subst YD;obtain⟨h1,h2⟩:=hs.dG (Bs _ _) Hv U3 (Nat.le_refl _) (ow:=.G4) (.inr ⟨rfl,rfl⟩);exact B5 Ei h1 h2
     .obtain⟨h1,h2⟩:=hs.MW (Bs _ _) Hv U3 (Nat.le_refl _) rfl (fun _ _ h=>.inl h);exact B5 Ei h1 h2
   .cases hz
  .cases hm
 .cases hm
end
end
section
open Go
variable [Ga]
section
variable {P:Program}{dp:Nat->Option Fn}{F F':GD}{G G':List Gh}{w w':World}{S S':A1}{a:Act}{fr:List D}{o:Oper}{d:D}
theorem UJ{n k:Nat}{z:List D}(hz:z.length=k):∀x∈replicate n z,x.length=k:=by intro x hx;rw[(List.mem_replicate.1 hx).2];exact hz
theorem UT{n j:Nat}{z x:List D}(h:(replicate n z)[j]? = some x):j<n/\x=z:=by have h1:=(gB.1 h).1;have h2:=List.mem_replicate.1 (gC h);exact⟨by simpa using h1,h2.2⟩
theorem gJ{j k m:Nat}(hm:m<k):(j*k+m)%k=m:=by rw[Nat.add_comm,mul_comm,Nat.add_mul_mod_self_left,Nat.mod_eq_of_lt hm]
theorem SH{z:Array Value}{n q:Nat}(hq:q<n)(hz:0<z.size):∃h:q%z.size<z.size,(madeCells z n)[q]? = some z[q%z.size]:=by refine⟨mod_lt _ hz,?_⟩;simp[madeCells,hq,mod_lt _ hz]
theorem Zv{z:Array Value}{zs:List D}{n k:Nat}(Bg:CC dp F G w z zs)(h1:∀u∈z.toList,u.oneCell'=true)(hz:zs.length=k)(hk:0<k):H2 dp F G w k (madeCells z (n*k)) (replicate n zs):=by
 refine⟨UJ hz,fun j x m d hx hd=>?_⟩;obtain⟨hj,rfl⟩:=UT hx
 have hm:m<k:=by have:=(gB.1 hd).1;omega
 have Cw:z.size=k:=by rw[Bg.1,hz]
 obtain⟨h,hg⟩:=SH (z:=z) (lt_mul hj hm) (by omega);have e:(j*k+m)%z.size=m:=by rw[Cw];exact gJ hm
 have Ap:m<z.size:=by omega
 refine⟨z[m],by rw[hg];simp[e],h1 _ (by simp),Bg.2 m _ d (Array.getElem?_eq_getElem Ap) hd⟩
theorem Ki{k:Nat}{vs:Array Value}{xs:List (List D)}(h:H2 dp F G w k vs xs)(hk:0<k)(Cw:vs.size=xs.length*k):CC dp F G w vs xs.flatten:=by
 refine⟨by rw[QW h.1,Cw],fun q v d hv hd=>?_⟩;rw[Q9 hk q h.1] at hd;cases hx:xs[q/k]? with
 |none=>simp[hx] at hd
 |some x=>
  rw[hx] at hd;obtain⟨u,h1,h2,h3⟩:=h.2 (q/k) x (q%k) d hx (by simpa using hd);have:q/k*k+q%k=q:=by rw[mul_comm];exact Nat.div_add_mod q k
  rw[this,hv] at h1;injection h1 with h1
  rw[h1];exact h3
def PH(k:Nat)(arr:Bool)(z:List D)(m:Nat)(S:A1):D×A1:=
 if arr then(.ar k S.length 0 m,.box (replicate m z).flatten::S)
 else(if m=0 then(.sl k false [] .G4,S) else(.sl k false (replicate m z) (.tok S.length),.tok true::S))
theorem zk{k:Nat}{arr:Bool}{z:List D}{y:A}{kk:IntKind}{m:Int}(hm:mR P dp o.op (.Lo k arr z y)=true)(hs:BX dp F G w S)(hf:Fr dp F G w a fr)
  (he:av fr y=.i kk m) (h0:0<=m) (h1:m<=AP):Lk P dp F G w S a o (PH k arr z m.toNat S).1 (PH k arr z m.toNat S).2:=by
 simp only[mR] at hm;split at hm
 .rename_i t x c ho;simp only[and_eq_true] at hm;obtain⟨⟨hm,hx⟩,hc⟩:=hm;split at hm
  .rename_i e hu;simp only[and_eq_true,decide_eq_true_eq,beq_iff_eq] at hm;obtain⟨⟨⟨⟨Cw,hz⟩,hzl⟩,OK⟩,hb⟩:=hm;obtain⟨i,v,hi,hv,Bg,UX⟩:=RA (P:=P) (dp:=dp) (F:=F) (G:=G) (w:=w) hz;rw[hi] at hb;simp only[decide_eq_true_eq] at hb;have r1:=hf.eval hx;have r2:=hf.eval hc;rw[he] at r1 r2;generalize Lh:a.eval x=v1 at r1;generalize EM:a.eval c=v2 at r2;cases r1;cases r2
   have Qw:i.size=k:=by unfold jw at Cw;rw[hi] at Cw;simpa using Cw
   simp only[AP] at h1
   have YF:(i.bytes:Int)*m<=281474976710656:=by
    have e1:(i.bytes:Int)<=65536:=by omega
    have e2:(i.bytes:Int)*m<=65536*1048576:=Int.mul_le_mul e1 h1 h0 (by omega);omega
   have Ei:(execOp a.eval o).run P w=.ok (.value (.slice (some ⟨w.heap.size,0,none⟩) m.toNat m.toNat)) (w.alloc (.cells (madeCells v.cells (m.toNat*k)) e)):=by have hr:=run_make (P:=P) w t e i v hu hi hv kk kk m m h0 (Int.le_refl _) YF (by omega);rw[Qw] at hr;simp only[execOp,ho,Lh,EM,Sem.run_bind,hr,Result.andThen,Sem.run_pure]
   have Hv:=Zv (n:=m.toNat) Bg UX hzl OK;have hlen:(replicate m.toNat z).length=m.toNat:=by simp
   unfold PH;cases arr with
   |true=>
    simp only[if_true];have Gu:=Ki Hv OK (by rw[size_madeCells,hlen]);refine B5 Ei (hs.MI (m.toNat*k) (Bs _ _) Gu.le (fun u hu=>?_) rfl (fun _ _ h=>.inl h) (by rw[size_madeCells];exact Nat.le_refl _)) (.ar k _ 0 _ _ ⟨w.heap.size,0,m.toNat*k⟩ (by rw[<-hs.len,Aj]) ⟨Nat.le_refl _,by simp⟩);obtain⟨q,hq,rfl⟩:=getElem_of_mem hu;have fU:q<m.toNat*k:=by simpa[size_madeCells] using hq
    have U4:0<v.cells.size:=by rw[Bg.1];omega
    obtain⟨hh,hg⟩:=SH (z:=v.cells) fU U4;rw[getElem_toList,Array.getElem?_eq_getElem (by simpa using hq)] at *;injection hg with hg;rw[hg];exact UX _ (by simp)
   |false=>
    simp only[false_eq_true,if_false];split
    .rename_i oR;have:m.toNat=0:=oR;rw[this] at Hv Ei;obtain⟨a1,a2⟩:=hs.dG (cap:=0) (Bs w _) Hv (by simp[size_madeCells]) (by simp) (ow:=.G4) (.inr ⟨rfl,rfl⟩);exact B5 Ei a1 a2
    .obtain⟨a1,a2⟩:=hs.MW (cap:=m.toNat) (Bs w _) Hv (by simp[size_madeCells]) (by simp) rfl (fun _ _ h=>.inl h);rw[hlen] at a1 a2;exact B5 Ei a1 a2
  .cases hm
 .cases hm
theorem Te:∀(ds z:List D) (o j:Nat),(Ai z o ds)[j]? = if o<=j/\j<o+ds.length/\j<z.length then ds[j-o]? else z[j]?
 |[],z,o,j=>by rw[if_neg (by simp only[length_nil];omega)];rfl
 |d::ds,z,o,j=>by
  simp only[Ai];rw[Te ds,C6];simp only[length_cons];by_cases h:j=o
  .subst h;rw[if_neg (by omega),HP];by_cases Ap:j<z.length
   .rw[if_pos ⟨rfl,Ap⟩,if_pos (by omega)];simp
   .rw[if_neg (fun h=>Ap h.2),if_neg (by omega)]
  .by_cases h2:o+1<=j/\j<o+1+ds.length/\j<z.length
   .rw[if_pos h2,if_pos (by omega),show j-o=(j-(o+1))+1 by omega];rfl
   .rw[if_neg h2,if_neg (by omega),HP,if_neg (fun hh=>h hh.1)]
theorem Rk(cur:Array Value)(vs:List Value)(o j:Nat)(h:o+vs.length<=cur.size) :
  ((cur.toList.take o++vs++cur.toList.drop (o+vs.length)).toArray)[j]? = if o<=j/\j<o+vs.length then vs[j-o]? else cur[j]?:=by
 rw[List.getElem?_toArray,List.append_assoc];have hl:(cur.toList.take o).length=o:=by simp;omega
 by_cases h1:j<o
 .rw[if_neg (by omega),gE (by omega),List.getElem?_take_of_lt h1];simp
 .rw[gF (by omega),hl];by_cases h2:j<o+vs.length
  .rw[if_pos (by omega),gE (by omega)]
  .rw[if_neg (by omega),gF (by omega),getElem?_drop];rw[show o+vs.length+(j-o-vs.length)=j by omega];simp
theorem Ly(cur:Array Value)(vs:List Value)(o:Nat)(h:o+vs.length<=cur.size):((cur.toList.take o++vs++cur.toList.drop (o+vs.length)).toArray).size=cur.size:=by simp;omega
theorem XG{cur:Array Value}{vs:List Value}{o:Nat}(h1:∀u∈cur.toList,u.oneCell'=true)(h2:∀u∈vs,u.oneCell'=true) :
  ∀u∈((cur.toList.take o++vs++cur.toList.drop (o+vs.length)).toArray).toList,u.oneCell'=true:=by
 intro u hu;simp only[List.append_assoc,List.mem_append] at hu;rcases hu with hu|hu|hu
 .exact h1 u (List.mem_of_mem_take hu)
 .exact h2 u hu
 .exact h1 u (List.mem_of_mem_drop hu)
theorem EP.put{cur:Array Value}{z ds:List D}{vs:List Value}{o:Nat}(h:EP dp F G w cur z)(h2:vs.length=ds.length)
  (h3:∀(j:Nat) (v:Value) (d:D),vs[j]? = some v->ds[j]? = some d->Rel dp F G w v d) (hle:o+ds.length<=z.length) :
  EP dp F G w ((cur.toList.take o++vs++cur.toList.drop (o+vs.length)).toArray) (DE.Ai z o ds):=by
 have hc:o+vs.length<=cur.size:=by rw[h2];exact le_trans hle h.1
 refine⟨by rw[Ly _ _ _ hc,NN];exact h.1,fun j v d hv hd=>?_⟩;rw[Rk _ _ _ _ hc] at hv;rw[Te] at hd;by_cases hj:o<=j/\j<o+ds.length
 .rw[if_pos (by omega)] at hv hd;exact h3 _ _ _ hv hd
 .rw[if_neg (by omega)] at hv;rw[if_neg (by omega)] at hd;exact h.2 j v d hv hd
theorem LJ{b:Nat}{cur cs:Array Value}{T:TypeId}(h:w.heap[b]? = some (.cells cur T (0,0))):V9 w b (.cells cs T (0,0)) (w.setRow b cs):=
 ⟨setRow_heap w b cur cs T _ h,fun k hk=>setRow_other w b k cs (fun e=>hk (by omega)),size_setRow w b cs,rfl,⟨rfl,Ga.refl _⟩,rfl⟩
theorem ok_bsa{k:Nat}{g:Bool}{ys:List A}{l:List (List D)}(hm:mR P dp o.op (.xD k g ys)=true)(hs:BX dp F G w S)(hf:Fr dp F G w a fr)(he:Bk fr k g ys=some l) :
  Lk P dp F G w S a o (.ar k S.length 0 l.length) (.box l.flatten::S):=by
 simp only[mR] at hm;split at hm
 .rename_i t len parts ho;split at hm
  .rename_i e hu;simp only[and_eq_true,decide_eq_true_eq,beq_iff_eq] at hm;obtain⟨⟨⟨⟨⟨⟨hT,OK⟩,hk1⟩,rfl⟩,hlen⟩,hz⟩,hel⟩:=hm;obtain⟨ie,yI,Cw⟩:=R8 hT;rw[yI] at hz;dsimp only at hz;split at hz
   .rename_i z hzv;simp only[beq_iff_eq] at hz;have hl:=EJ he;obtain⟨Ba,c1,c2,c3,c4,c5,c6⟩:=Nq (P:=P) (cells:=(Array.range (ys.length*ie.size)).map (z.cells[· % z.cells.size]!)) hf hT hel he (by simp[Cw]);have Hv:H2 dp F G w k Ba l:=⟨c5,fun j x m d hx hd=>by simpa using c6 j x m d hx hd⟩
    have U3:Ba.size=l.length*k:=by rw[c2,hl];simp[Cw]
    have Ei:(execOp a.eval o).run P w=.ok (.value (.slice (some ⟨w.heap.size,0,none⟩) l.length l.length)) (w.alloc (.cells Ba e)):=by
     by_cases h0:ys.length=0
     .have hy:ys=[]:=List.eq_nil_of_length_eq_zero h0;subst hy
      have hp:parts.toList=[]:=by
       cases hp:parts.toList with
       |nil=>rfl
       |cons x l=>rw[hp] at hel;simp[LP] at hel
      have aX:parts = #[]:=by simpa using hp
      subst aX
      have Gu:Ba = #[]:=by rw[<-Array.size_eq_zero_iff,U3,hl];simp
      rw[hl];simp[execOp,ho,Instr.buildSlice,run_underlying hu,sizeOf,typeInfo,yI,Instr.fill,newRow,Gu,Array.range_zero']
     .have hb:=run_buildSlice (P:=P) w t e ys.length (parts.map fun(i,x)=>(i,a.eval x)) Ba ie z hu yI hzv (by
       rw[Cw];have:ys.length*k<=1024*4096:=Nat.mul_le_mul hlen hk1
       omega) (by rw[Cw];exact Nat.mul_ne_zero h0 (by omega)) (by rw[Cw];rw[Cw] at c1;simpa using c1)
      rw[hl];simp only[execOp,ho,Sem.run_bind,hb,Result.andThen,Sem.run_pure]
    have Gu:=Ki Hv OK U3;refine B5 Ei (hs.MI (l.length*k) (Bs _ _) Gu.le (fun u hu=>?_) rfl (fun _ _ h=>.inl h) (by rw[U3];exact Nat.le_refl _)) (.ar k _ 0 _ _ ⟨w.heap.size,0,l.length*k⟩ (by rw[<-hs.len,Aj]) ⟨Nat.le_refl _,by simp⟩);obtain⟨q,hq,rfl⟩:=getElem_of_mem hu;have fU:q<l.length*k:=by rw[<-U3];simpa using hq
    have hqk:q/k<l.length:=(Nat.div_lt_iff_lt_mul OK).2 fU;have hqm:q%k<k:=mod_lt _ OK;have hx:=gA hqk;have U5:=Hv.1 _ (gC hx);obtain⟨v,e1,e2,_⟩:=Hv.2 (q/k) _ (q%k) _ hx (gA (by rw[U5];exact hqm));rw[mul_comm (q/k),Nat.div_add_mod] at e1;obtain⟨h1,h2⟩:=Array.getElem?_eq_some_iff.1 e1;simp only[getElem_toList];rw[h2];exact e2
   .cases hz
  .cases hm
 .cases hm
theorem BX.ZQ(hs:BX dp F G w S){id o:Nat}{g:Gh}{cs ds:List D}{vs:List Value}(he:AA S id=some (.box cs))(hg:AA G id=some g)(h2:vs.length=ds.length)
  (h3:∀(j:Nat) (v:Value) (d:D),vs[j]? = some v->ds[j]? = some d->Rel dp F G w v d) (h1:∀u∈vs,u.oneCell'=true) (hle:o+ds.length<=cs.length) :
  ∃w',(storeCells ⟨g.blk,o,none⟩ vs).run P w=.ok () w'/\BX dp F G w' (sset S id (.box (Ai cs o ds)))/\Ext F G w S F G w' (sset S id (.box (Ai cs o ds))):=by
 obtain⟨cur,T,e1,⟨e2,e2h⟩,e3,e4,e5⟩:=hs.aV id _ g he hg;have Er:=run_storeCells_at P g.blk o T vs 0 cur w e1 (by omega) h1;simp only[add_zero] at Er;refine⟨_,Er,?_⟩;have Bg:=EP.put (o:=o) ⟨e2,e5⟩ h2 h3 hle
 refine hs.write he hg trivial (LJ e1) (fun o h=>(e3 o h).elim) (fun _ _ h=>h) (fun _ _ h=>.inl h)
  ⟨_,T,setRow_heap w g.blk cur _ T _ e1,⟨Bg.1,by rw[Ly _ _ _ (by omega)];exact e2h⟩,e3,XG e4 h1,fun m v d hv hd=>?_⟩
 refine(Bg.2 m v d hv hd).mono (fun _ _ h=>h) (fun _ _ h=>h) fun b o h=>?_;refine World.cell?_of_block (a:=⟨b,o,none⟩) (setRow_other w g.blk b _ fun heq=>?_);exact e3 o (heq▸h)
theorem ok_st{k:Nat}{g:Bool}{x y:A}{id p:Nat}{cs ds:List D}(hm:mR P dp o.op (.st k g x y)=true)(hs:BX dp F G w S)(hf:Fr dp F G w a fr)
  (h1:av fr x=.bx id p) (h2:AA S id=some (.box cs)) (h3:Am k g (av fr y)=some ds) (h4:p+k<=cs.length) :
  Lk P dp F G w S a o (.AY []) (sset S id (.box (Ai cs p ds))):=by
 simp only[mR] at hm;split at hm
 .rename_i t xo vo ho;simp only[and_eq_true] at hm;obtain⟨⟨hT,hx⟩,hv⟩:=hm;have r1:=hf.eval hx;have r2:=hf.eval hv;rw[h1] at r1;generalize Lh:a.eval xo=v1 at r1;generalize EM:a.eval vo=v2 at r2;cases r1 with
  |bx _ _ gh hg=>
   obtain⟨Bg,UX⟩:=V5 r2 h3;obtain⟨l1,l2,l3⟩:=LF r2 h3;rw[mT_k hT] at l1;obtain⟨w',hw,NC⟩:=hs.ZQ (P:=P) (o:=p) (vs:=v2.cells.toList) h2 hg (by simpa using l2) (fun j v d hv hd=>Bg.2 j v d (by simpa using hv) hd) UX (by omega);refine Mg ?_ NC;simp only[execOp,ho,Lh,EM,Instr.storeAt,Instr.sureAddr,storeVar,Sem.run_bind,Sem.run_pure,Result.andThen,BN (jW hT) w];rw[if_neg (by rw[l2,l1];simp)];simp only[hw]
 .cases hm
theorem Ud{Z:Type}:∀{l:List Z} {id:Nat} {x:Z},AA l id=some x->sset l id x=l
 |[],_,_,h=>by cases h
 |e::l,id,x,h=>by
  simp only[AA] at h;simp only[sset];split<;>rename_i hid
  .rw[if_pos hid] at h;injection h with h
   rw[h]
  .rw[if_neg hid] at h;rw[Ud h]
theorem rZ{z:Array Value}{zs:List D}{n k:Nat}(Bg:CC dp F G w z zs)(h1:∀u∈z.toList,u.oneCell'=true)(hz:zs.length=k)(hk:0<k) :
  CC dp F G w (Builtin.zeroCells z n) (replicate n zs).flatten/\∀u∈(Builtin.zeroCells z n).toList,u.oneCell'=true:=by
 have Cw:z.size=k:=by rw[Bg.1,hz]
 have e:Builtin.zeroCells z n=madeCells z (n*k):=by simp only[Builtin.zeroCells,madeCells,Cw]
 rw[e];refine⟨Ki (Zv Bg h1 hz hk) hk (by simp[size_madeCells]),fun u hu=>?_⟩;obtain⟨q,hq,rfl⟩:=getElem_of_mem hu;have fU:q<n*k:=by simpa[size_madeCells] using hq
 obtain⟨hh,hg⟩:=SH (z:=z) fU (by omega);rw[getElem_toList];rw[Array.getElem?_eq_getElem (by simpa using hq)] at hg;injection hg with hg;rw[hg];exact h1 _ (by simp)
theorem rU{k:Nat}{z:List D}{x:A}{S':A1}(hm:mR P dp o.op (.xF k z x)=true)(hs:BX dp F G w S)(hf:Fr dp F G w a fr)
  (he:(∃id p n cs,av fr x=.ar k id p n/\z.length=k/\AA S id=some (.box cs)/\p+n*k<=cs.length/\S'=sset S id (.box (Ai cs p (replicate n z).flatten))) \/
   (∃k' nl ow,av fr x=.sl k' nl [] ow/\S'=S)):Lk P dp F G w S a o (.AY []) S':=by
 simp only[mR] at hm;split at hm
 .rename_i c ho;simp only[and_eq_true] at hm;obtain⟨⟨hb,ht⟩,BE⟩:=hm;split at hb
  .rename_i MN;split at ht
   .rename_i t hts;split at ht
    .rename_i e hu;simp only[and_eq_true] at ht;obtain⟨Cw,hz⟩:=ht;obtain⟨i,v,hi,hv,Bg,UX⟩:=RA (P:=P) (dp:=dp) (F:=F) (G:=G) (w:=w) hz
     have YM:c.argTypes[0]? = some t:=by rw[<-getElem?_toList,hts];rfl
     obtain⟨e1,e2,e3⟩:=hf.PA BE;have hl:c.args.toList.length=1:=by rw[e1];rfl
     match hx:c.args.toList,hl with
     |[x1],_=>
      rw[hx] at BE;simp only[UO,and_eq_true] at BE;have r1:=hf.eval BE.1
      have ha0:(c.args.map a.eval)[0]? = some (a.eval x1):=by rw[<-getElem?_toList];simp[hx]
      have run:∀w',(Builtin.clear_ c.argTypes o.type (c.args.map a.eval)).run P w=.ok (.tuple #[]) w'->(execOp a.eval o).run P w=.ok (.value (.tuple #[])) w':=by intro w' h;simp only[execOp,ho,resolve,MN,Sem.run_bind,Sem.run_pure,Result.andThen,invoke,builtin,h]
      have rel:∀{F':GD} {G':List Gh} {w'},Rel dp F' G' w' (.tuple #[]) (.AY []):=.AY _ _ rfl fun j v d h=>by simp at h
      rcases he with⟨id,p,n,cs,h1,hzk,h2,h3,rfl⟩|⟨k',nl,ow,h1,rfl⟩
      .rw[h1] at r1;generalize Lh:a.eval x1=v1 at r1 ha0;cases r1 with
       |ar _ _ _ _ cap gh hg hn=>
        cases n with
        |zero=>
         simp only[List.replicate_zero,List.flatten_nil,Ai,Ud h2];refine B5 (run w ?_) ⟨hs,Ext.refl _ _ _ _⟩ rel;simp only[Builtin.clear_,YM,ha0,Sem.run_bind,run_underlying hu,Result.andThen];rfl
        |succ n=>
         have hk:z.length=k:=hzk;have OK:0<k\/k=0:=by omega
         obtain⟨hok2,hone2⟩:CC dp F G w (Builtin.zeroCells v.cells (n+1)) (replicate (n+1) z).flatten/\∀u∈(Builtin.zeroCells v.cells (n+1)).toList,u.oneCell'=true:=by
          rcases OK with OK|OK
          .exact rZ Bg UX hk OK
          .have hz0:z=[]:=List.eq_nil_of_length_eq_zero (by omega);have hv0:v.cells.size=0:=by rw[Bg.1,hz0];rfl
           have:Builtin.zeroCells v.cells (n+1) = #[]:=by simp[Builtin.zeroCells,hv0,Array.range_zero']
           rw[this,hz0];exact⟨⟨by simp,fun j v d h=>by simp at h⟩,by simp⟩
         have hlen:(replicate (n+1) z).flatten.length=(n+1)*k:=by simp[hk]
         obtain⟨w',hw,NC⟩:=hs.ZQ (P:=P) (o:=p) (vs:=(Builtin.zeroCells v.cells (n+1)).toList) h2 hg (by simpa using hok2.1) (fun j v d hv hd=>hok2.2 j v d (by simpa using hv) hd) hone2 (by omega);refine B5 (run w' ?_) NC rel;simp only[Builtin.clear_,YM,ha0,Sem.run_bind,run_underlying hu,Result.andThen,zeroValue,typeInfo,run_program,hi,hv,Sem.run_pure,hw]
      .rw[h1] at r1;generalize Lh:a.eval x1=v1 at r1 ha0;refine B5 (run w ?_) ⟨hs,Ext.refl _ _ _ _⟩ rel;cases r1<;>simp only[Builtin.clear_,YM,ha0,Sem.run_bind,run_underlying hu,Result.andThen]<;>rfl
    .cases ht
   .cases ht
  .cases hb
 .cases hm
end
end
end Go.Proofs.YtjniafcnjbbomaaGreatDoor.DE
