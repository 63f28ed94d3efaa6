/- Joined texts. -/
import Derived.Test.YtjniafcnjbbomaaGreatDoorQx3
import GoSem.Dispatch
import Derived.KernelRfl
set_option linter.all false
open List (cons_append drop_drop drop_of_length_le drop_zero getElem?_cons_succ getElem?_cons_zero length_cons length_nil length_replicate length_set length_take nil_append replicate take_add_one take_append_drop take_of_length_le)
open Bool (false_eq_true)
open Option (map_some)
open Nat (add_assoc add_mul add_mul_div_left add_zero div_add_mod div_eq_of_lt div_le_self div_lt_iff_lt_mul div_lt_self le_div_iff_mul_le le_of_lt le_refl log2 log2_lt lt_of_le_of_lt lt_of_lt_of_le lt_or_ge lt_trans min_eq_left mod_add_div mod_eq_of_lt mod_lt mul_add mul_assoc mul_comm mul_le_mul mul_le_mul_left mul_le_mul_right mul_one mul_pos mul_zero one_mul pow_add pow_le_pow_right pow_succ two_pow_pos zero_add)
open Int (cast_ofNat_Int natCast_add)
namespace Go.Proofs.YtjniafcnjbbomaaGreatDoor.DE.V
open Go
theorem AJ{Z:Type}{e:Z}:∀{S:List Z} {id:Nat},AA S id=some e->id<S.length
 |[],_,h=>by simp[AA] at h
 |x::S,id,h=>by
  simp only[AA] at h;split at h
  .rename_i q;simp[q]
  .have:=AJ h;simp;omega
@[simp] theorem Aj{Z:Type}(e:Z)(S:List Z):AA (e::S) S.length=some e:=by simp[AA]
theorem AM{Z:Type}{e x:Z}{S:List Z}{id:Nat}(h:AA S id=some x):AA (e::S) id=some x:=by have:=AJ h;simp only[AA];rw[if_neg (by omega)];exact h
@[simp] theorem ZH{Z:Type}(e x:Z)(S:List Z):sset (e::S) S.length x=x::S:=by simp[sset]
theorem BR{Z:Type}(x:Z):∀(S:List Z) (id:Nat),(sset S id x).length=S.length
 |[],_=>rfl
 |e::S,id=>by
  simp only[sset];split
  .rfl
  .simp[BR x S id]
theorem AR{Z:Type}(x:Z):∀{S:List Z} {id:Nat},id<S.length->AA (sset S id x) id=some x
 |[],_,h=>by simp at h
 |e::S,id,h=>by
  simp only[sset];split
  .rename_i q;simp[AA,q]
  .rename_i q;simp only[AA,BR];rw[if_neg q];exact AR x (by simp at h;omega)
theorem AB{Z:Type}(x:Z):∀{S:List Z} {id j:Nat},j≠id->AA (sset S id x) j=AA S j
 |[],_,_,_=>rfl
 |e::S,id,j,h=>by
  simp only[sset];split
  .rename_i q;subst q;simp[AA,h]
  .simp only[AA,BR];rw[AB x h]
@[simp high] theorem Oi(c:Bool)(K:D->Prop):OX (some (.b c)) K=if c=true then K (.b true) else K (.b false):=by cases c<;>rfl
def KF(n:Int):Prop:=-9223372036854775808<=n/\n<=9223372036854775807
abbrev Row:=Int×Int
abbrev Nd:=Int×Int×Int
def Ar(r:Row):List D:=[.i .i64 r.1,.i .i64 r.2]
def C5(x:Nd):List D:=[.i .i64 x.1,.i .i64 x.2.1,.i .i64 x.2.2]
def AN(nl:Bool)(l:List Row):D:=.sl 2 nl (l.map Ar) .ro
def Cm(nl:Bool)(l:List Nd):D:=.sl 3 nl (l.map C5) .ro
def eB(nl B3:Bool)(ord:List Row)(ns:List Nd)(root:Int):D:=.agg [AN nl ord,Cm B3 ns,.i .i64 root]
def ZZ(r:Row):Prop:=KF r.1/\KF r.2
def NM(r:Row):Bool:=decide (1<=r.1)&&decide (1<=r.2)
theorem Yc(r:Row):A9 (Ar r)=true:=rfl
theorem dW(r:Nd):A9 (C5 r)=true:=rfl
theorem Hb{Z:Type}(f:Z->List D)(h:∀x,A9 (f x)=true):∀l:List Z,Bo (l.map f)=true
 |[]=>rfl
 |x::l=>by simp[Bo,h x,Hb f h l]
@[simp] theorem noRef_eRows(nl:Bool)(l:List Row):AG (AN nl l)=true:=by simp[AN,AG,Hb Ar Yc l]
@[simp] theorem noRef_eNds(nl:Bool)(l:List Nd):AG (Cm nl l)=true:=by simp[Cm,AG,Hb C5 dW l]
@[simp] theorem noRef_eB(nl B3:Bool)(ord:List Row)(ns:List Nd)(root:Int):AG (eB nl B3 ord ns root)=true:=by simp[eB,AG,A9]
@[simp] theorem noRef_row(r:Row):AG (.agg (Ar r))=true:=(rfl)
@[simp] theorem QK(nl:Bool)(l:List Row):strip (AN nl l)=AN nl l:=(rfl)
@[simp] theorem strip_eNds(nl:Bool)(l:List Nd):strip (Cm nl l)=Cm nl l:=(rfl)
@[simp] theorem sM(nl B3:Bool)(ord:List Row)(ns:List Nd)(root:Int):strip (eB nl B3 ord ns root)=eB nl B3 ord ns root:=(rfl)
@[simp] theorem nR(r:Row):strip (.agg (Ar r))=.agg (Ar r):=(rfl)
@[simp] theorem Cq(k:IntKind)(n:Int):strip (.i k n)=.i k n:=(rfl)
@[simp] theorem strip_b(n:Bool):strip (.b n)=.b n:=(rfl)
@[simp] theorem stripT_eRows(nl:Bool)(l:List Row):Ae (AN nl l)=AN nl l:=(rfl)
@[simp] theorem YX(k:IntKind)(n:Int):Ae (.i k n)=.i k n:=(rfl)
@[simp] theorem KS(n:Bool):Ae (.b n)=.b n:=(rfl)
@[simp] theorem noRef_i(k:IntKind)(n:Int):AG (.i k n)=true:=(rfl)
@[simp] theorem noRef_b(n:Bool):AG (.b n)=true:=(rfl)
theorem wrap64{n:Int}(h:KF n):IntKind.wrap .i64 n=n:=by
 obtain⟨h1,h2⟩:=h;rcases Int.lt_or_le n 0 with h|h
 .have e:n%18446744073709551616=n+18446744073709551616:=by omega
  simp[IntKind.wrap,IntKind.signed,IntKind.bits,e];omega
 .have e:n%18446744073709551616=n:=by omega
  simp[IntKind.wrap,IntKind.signed,IntKind.bits,e];omega
theorem mo(nl:Bool)(l:List Row):AK false (AN nl l)=some (.i .i64 l.length):=by simp[AN,AK]
theorem aH(nl:Bool)(l:List Nd):AK false (Cm nl l)=some (.i .i64 l.length):=by simp[Cm,AK]
theorem Ee{nl:Bool}{l:List Row}{n:Nat}{r:Row}(k:IntKind)(h:l[n]? = some r):Ak 2 (AN nl l) (.i k n)=some (.el (Ar r) 0):=by simp[AN,Ak,h]
theorem LN{nl:Bool}{l:List Nd}{n:Nat}{r:Nd}(k:IntKind)(h:l[n]? = some r):Ak 3 (Cm nl l) (.i k n)=some (.el (C5 r) 0):=by simp[Cm,Ak,h]
theorem Td{nl:Bool}{l:List Nd}{n:Int}{r:Nd}(k:IntKind)(h0:0<=n)(h:l[n.toNat]? = some r):Ak 3 (Cm nl l) (.i k n)=some (.el (C5 r) 0):=by simp[Cm,Ak,h,h0]
@[simp] theorem eG(S:A1)(r:Row):AE S 2 true (.el (Ar r) 0)=some (.agg (Ar r)):=by simp[AE,MM,Ar]
@[simp] theorem Um(S:A1)(r:Nd):AE S 3 true (.el (C5 r) 0)=some (.agg (C5 r)):=by simp[AE,MM,C5]
theorem SO(r s:Row):Ew [.i,.i] (Ar r) (Ar s)=some (decide (r=s)):=by
 have:decide (r=s)=(r.1==s.1&&r.2==s.2):=by rw[Bool.eq_iff_iff];simp[Prod.ext_iff]
 simp[Ar,Ew,HV,seq1,this]
theorem iH(r s:Nd):Ew [.i,.i,.i] (C5 r) (C5 s)=some (decide (r=s)):=by
 have:decide (r=s)=(r.1==s.1&&(r.2.1==s.2.1&&r.2.2==s.2.2)):=by rw[Bool.eq_iff_iff];simp[Prod.ext_iff]
 simp[C5,Ew,HV,seq1,this]
theorem GV(r:Row):isKey (.agg [.i,.i]) (.agg (Ar r))=true:=rfl
theorem OS(r:Nd):isKey (.agg [.i,.i,.i]) (.agg (C5 r))=true:=rfl
section
variable (k:IntKind)(a b:Int)(S:A1)(cs:List D)(id o p:Nat)(K:D->A1->Prop)
def ldE:Option B9->Nat->Bool->Nat->Option D
 |some (.box cs),k,g,o=>MM cs o k g
 |_,_,_,_=>none
@[simp] theorem GH(k:Nat)(g:Bool):AE S k g (.bx id o)=ldE (AA S id) k g o:=by
 simp only[AE,ldE];cases AA S id with
 |none=>rfl
 |some e=>cases e<;>rfl
@[simp] theorem K2(k:Nat)(g:Bool):ldE (some (.box cs)) k g o=MM cs o k g:=(rfl)
@[simp] theorem ldD_el(k:Nat)(g:Bool):AE S k g (.el cs o)=MM cs o k g:=(rfl)
@[simp] theorem LW(k:Nat):MM cs o k false=cs[o]?:=(rfl)
theorem OO{cs:List D}{k:Nat}(h:cs.length=k):MM cs 0 k true=some (.agg cs):=by subst h;simp[MM]
@[simp] theorem rdK_row(r:Row):MM (Ar r) 0 2 true=some (.agg (Ar r)):=OO rfl
@[simp] theorem rdK_nd(r:Nd):MM (C5 r) 0 3 true=some (.agg (C5 r)):=OO rfl
@[simp] theorem rdK_lit2(x y:D):MM [x,y] 0 2 true=some (.agg [x,y]):=(rfl)
@[simp] theorem sx(x y z:D):MM [x,y,z] 0 3 true=some (.agg [x,y,z]):=(rfl)
@[simp high] theorem row_0(r:Row):(Ar r)[0]? = some (.i .i64 r.1):=(rfl)
@[simp high] theorem row_1(r:Row):(Ar r)[1]? = some (.i .i64 r.2):=(rfl)
@[simp high] theorem nd_0(r:Nd):(C5 r)[0]? = some (.i .i64 r.1):=(rfl)
@[simp high] theorem nd_1(r:Nd):(C5 r)[1]? = some (.i .i64 r.2.1):=(rfl)
@[simp high] theorem nd_2(r:Nd):(C5 r)[2]? = some (.i .i64 r.2.2):=(rfl)
@[simp] theorem isCell_rows(nl:Bool)(l:List Row):BF (AN nl l)=true:=(rfl)
@[simp] theorem isCell_nds(nl:Bool)(l:List Nd):BF (Cm nl l)=true:=(rfl)
@[simp] theorem Oj:BF (.i k a)=true:=(rfl)
@[simp] theorem isCell_mp:BF (.mp id)=true:=(rfl)
@[simp] theorem isCell_fn:BF (.fn id cs)=true:=(rfl)
@[simp] theorem nV(k:Nat)(n:Bool)(xs:List (List D))(o:JB):BF (.sl k n xs o)=true:=(rfl)
@[simp] theorem allCell_nil:HO []=true:=(rfl)
@[simp] theorem allCell_cons(x:D):HO (x::cs)=(BF x&&HO cs):=(rfl)
@[simp] theorem uF:AO o (.bx id p)=some (.bx id (p+o)):=(rfl)
@[simp] theorem faD_el:AO o (.el cs p)=some (.el cs (p+o)):=(rfl)
theorem JV{cs:List D}{k:Nat}(h:cs.length=k)(h':HO cs=true):Am k true (.agg cs)=some cs:=by simp[Am,h,h']
@[simp] theorem Sv(r:Row):Am 2 true (.agg (Ar r))=some (Ar r):=(rfl)
@[simp] theorem lR(r:Nd):Am 3 true (.agg (C5 r))=some (C5 r):=(rfl)
@[simp] theorem nZ(nl B3:Bool)(ord:List Row)(ns:List Nd)(root:Int):Am 3 true (eB nl B3 ord ns root)=some [AN nl ord,Cm B3 ns,.i .i64 root]:=(rfl)
@[simp] theorem cellsK_i(m:Nat):Am m false (.i k a)=some [.i k a]:=(rfl)
@[simp] theorem cellsK_mp(m:Nat):Am m false (.mp id)=some [.mp id]:=(rfl)
@[simp] theorem cellsK_rows(m:Nat)(nl:Bool)(l:List Row):Am m false (AN nl l)=some [AN nl l]:=(rfl)
@[simp] theorem cellsK_nds(m:Nat)(nl:Bool)(l:List Nd):Am m false (Cm nl l)=some [Cm nl l]:=(rfl)
@[simp] theorem cellsK_sl(m k:Nat)(n:Bool)(xs:List (List D))(o:JB):Am m false (.sl k n xs o)=some [.sl k n xs o]:=(rfl)
@[simp] theorem cellsK_lit3(x y z:D)(hx:BF x=true)(hy:BF y=true)(hz:BF z=true):Am 3 true (.agg [x,y,z])=some [x,y,z]:=JV rfl (by simp[hx,hy,hz])
@[simp] theorem cellsK_lit2(x y:D)(hx:BF x=true)(hy:BF y=true):Am 2 true (.agg [x,y])=some [x,y]:=JV rfl (by simp[hx,hy])
@[simp] theorem Pj(k:Nat)(g:Bool)(x:D):Cg k g x S K=OX (Am k g x) fun cs=>K (.bx S.length 0) (.box cs::S):=(rfl)
@[simp] theorem HY(z:List D):al z S K=K (.bx S.length 0) (.box z::S):=(rfl)
@[simp] theorem mm_eq:mm S K=K (.mp S.length) (.map []::S):=(rfl)
@[simp] theorem Ek:A4 .geq .num (.i k a) (.i k b)=some (.b (decide (b<=a))):=by simp[A4,EI]
@[simp] theorem RX:A4 .leq .num (.i k a) (.i k b)=some (.b (decide (a<=b))):=by simp[A4,EI]
@[simp] theorem Jv:A4 .lss .num (.i k a) (.i k b)=some (.b (decide (a<b))):=by simp[A4,EI]
@[simp] theorem Mq:A4 .gtr .num (.i k a) (.i k b)=some (.b (decide (b<a))):=by simp[A4,EI]
@[simp] theorem PG:A4 .eql .num (.i k a) (.i k b)=some (.b (decide (a=b))):=by simp only[A4,EI,if_true];congr 2
@[simp] theorem JA:A4 .neq .num (.i k a) (.i k b)=some (.b (!decide (a=b))):=by simp only[A4,EI,if_true];congr 2
@[simp] theorem EB:A4 .add .num (.i k a) (.i k b)=some (.i k (k.wrap (a+b))):=by simp[A4,EI]
@[simp] theorem Cp:A4 .sub .num (.i k a) (.i k b)=some (.i k (k.wrap (a-b))):=by simp[A4,EI]
@[simp] theorem QF(r s:Row):A4 .eql (.agg [.i,.i]) (.agg (Ar r)) (.agg (Ar s))=some (.b (decide (r=s))):=by simp only[A4,SO,og]
@[simp] theorem QB(r s:Row):A4 .neq (.agg [.i,.i]) (.agg (Ar r)) (.agg (Ar s))=some (.b (!decide (r=s))):=by simp only[A4,SO,og]
@[simp] theorem bin_neq_nd(r s:Nd):A4 .neq (.agg [.i,.i,.i]) (.agg (C5 r)) (.agg (C5 s))=some (.b (!decide (r=s))):=by simp only[A4,iH,og]
@[simp] theorem zP(nl:Bool)(l:List Row)(m:Nat)(o:JB):A4 .eql .sl (AN nl l) (.sl m true [] o)=some (.b nl):=(rfl)
@[simp] theorem Cu(c:Bool):ES .not (.b c)=some (.b (!c)):=(rfl)
@[simp] theorem Jf(x y:D):AU (.b true) x y=some x:=(rfl)
@[simp] theorem GI(x y:D):AU (.b false) x y=some y:=(rfl)
@[simp] theorem CX(j:Nat):Ag (.AY cs) j=cs[j]?:=(rfl)
@[simp] theorem SN:NT (.fn id cs)=some (id,cs):=(rfl)
@[simp] theorem lenD_rows'(nl:Bool)(l:List Row):AK false (AN nl l)=some (.i .i64 l.length):=mo nl l
@[simp] theorem lenD_nds'(nl:Bool)(l:List Nd):AK false (Cm nl l)=some (.i .i64 l.length):=aH nl l
@[simp] theorem kC(k:Nat)(n:Bool)(xs:List (List D))(o:JB):AK false (.sl k n xs o)=some (.i .i64 xs.length):=(rfl)
@[simp] theorem H8(k:Nat)(g:Bool):AV k g []=some []:=(rfl)
@[simp] theorem cellsV_nd(r:Nd):AV 3 true [.agg (C5 r)]=some [C5 r]:=(rfl)
@[simp] theorem cellsV_row(r:Row):AV 2 true [.agg (Ar r)]=some [Ar r]:=(rfl)
@[simp] theorem Ru(k:Nat):HE k [] S=(.sl k false [] .G4,S):=(rfl)
theorem MB{k:Nat}{n n':Bool}{ys:List (List D)}{o:JB}(h:ys.length<=AP):Be k false (.sl k n [] .G4) (.sl k n' ys o) S=some (if ys=[] then(.sl k n [] .G4,S) else(.sl k false ys (.tok S.length),.tok true::S)):=by simp only[Be,length_nil,zero_add,h,and_self,true_or,if_true];cases ys<;>rfl
theorem iD{k:Nat}{n':Bool}{ys:List (List D)}{o o':JB}(h:ys.length<=AP)(ho:∀t,o ≠ .tok t):Be k false (.sl k true [] o) (.sl k n' ys o') S=some (if ys=[] then(.sl k true [] o,S) else(.sl k false ys (.tok S.length),.tok true::S)):=by
 simp only[Be,length_nil,zero_add,h,and_self,true_or,if_true];cases o with
 |tok t=>exact absurd rfl (ho t)
 |ro=>cases ys<;>rfl
 |G4=>cases ys<;>rfl
theorem Mr{k:Nat}{n':Bool}{xs ys:List (List D)}{o':JB}{t:Nat}(h:xs.length+ys.length<=AP)(hs:AA S t=some (.tok true)):Be k false (.sl k false xs (.tok t)) (.sl k n' ys o') S=some (.sl k false (xs++ys) (.tok S.length),.tok true::sset S t (.tok false)):=by simp only[Be,h,and_self,true_or,if_true,hs];rfl
def stE:Option B9->A1->Nat->Nat->Bool->Nat->D->Option A1
 |some (.box cs),S,id,k,g,o,v=>match Am k g v with
  |some l=>if o+k<=cs.length then some (sset S id (.box (Ai cs o l))) else none
  |none=>none
 |_,_,_,_,_,_,_=>none
@[simp] theorem Y2(k:Nat)(g:Bool)(v:D):Ax S k g (.bx id o) v=stE (AA S id) S id k g o v:=by
 simp only[Ax,stE];cases AA S id with
 |none=>rfl
 |some e=>cases e<;>rfl
@[simp] theorem aM(k:Nat)(g:Bool)(v:D):stE (some (.box cs)) S id k g o v=(Am k g v).bind fun l=>if o+k<=cs.length then some (sset S id (.box (Ai cs o l))) else none:=by simp only[stE];cases Am k g v<;>rfl
@[simp] theorem splice_nil:Ai cs o []=cs:=(rfl)
@[simp] theorem splice_cons(x:D)(l:List D):Ai cs o (x::l)=Ai (Bc cs o x) (o+1) l:=(rfl)
@[simp] theorem fset_zero(x y:D):Bc (x::cs) 0 y=y::cs:=(rfl)
@[simp] theorem fset_succ(x y:D)(n:Nat):Bc (x::cs) (n+1) y=x::Bc cs n y:=(rfl)
@[simp] theorem splice_row(x y:D)(r:Row):Ai [x,y] 0 (Ar r)=Ar r:=(rfl)
@[simp] theorem lS(x y z:D)(r:Nd):Ai [x,y,z] 0 (C5 r)=C5 r:=(rfl)
theorem HT{v:D}(h:BF v=true)(k:Nat):Am k false v=some [v]:=by simp[Am,h]
@[simp high] theorem stE1_0(x v:D)(h:BF v=true):stE (some (.box [x])) S id 1 false 0 v=some (sset S id (.box [v])):=by simp[HT h]
@[simp high] theorem stE2_0(x y v:D)(h:BF v=true):stE (some (.box [x,y])) S id 1 false 0 v=some (sset S id (.box [v,y])):=by simp[HT h]
@[simp high] theorem stE2_1(x y v:D)(h:BF v=true):stE (some (.box [x,y])) S id 1 false 1 v=some (sset S id (.box [x,v])):=by simp[HT h]
@[simp high] theorem qN(x y z v:D)(h:BF v=true):stE (some (.box [x,y,z])) S id 1 false 1 v=some (sset S id (.box [x,v,z])):=by simp[HT h]
@[simp high] theorem stE3_2(x y z v:D)(h:BF v=true):stE (some (.box [x,y,z])) S id 1 false 2 v=some (sset S id (.box [x,y,v])):=by simp[HT h]
@[simp] theorem bW:stripL []=[]:=(rfl)
@[simp] theorem YZ(x:D):stripL (x::cs)=strip x::stripL cs:=(rfl)
@[simp] theorem dX:Ae (.AY cs)=.AY (stripL cs):=(rfl)
@[simp] theorem BM(e:B9):AA (e::S) id=if id=S.length then some e else AA S id:=(rfl)
@[simp] theorem Ca(e x:B9):sset (e::S) id x=if id=S.length then x::S else e::sset S id x:=(rfl)
end
theorem vg(o:JB):oeq o o=true:=by cases o<;>simp[oeq]
mutual
theorem MC:∀d:D,GF d d=true
 |.top=>rfl
 |.b x=>by simp[GF]
 |.i k n=>by simp[GF]
 |.s l=>by simp[GF]
 |.sl k n xs o=>by simp[GF,vg,T8 xs]
 |.agg cs=>by simp[GF,JG cs]
 |.AY cs=>by simp[GF,JG cs]
 |.bx a b=>by simp[GF]
 |.el cs o=>by simp[GF,JG cs]
 |.ar a b c d=>by simp[GF]
 |.KO=>rfl
 |.Cy=>rfl
 |.mp a=>by simp[GF]
 |.fn g cs=>by simp[GF,JG cs]
theorem JG:∀l:List D,Lm l l=true
 |[]=>rfl
 |x::l=>by simp[Lm,MC x,JG l]
theorem T8:∀l:List (List D),NP l l=true
 |[]=>rfl
 |x::l=>by simp[NP,JG x,T8 l]
end
attribute [simp] MC
def assoc{Z β:Type}[DecidableEq Z](a:Z):List (Z × β)->Option β
 |[]=>none
 |(k,v)::es=>if a=k then some v else assoc a es
theorem GO{Z β:Type}[DecidableEq Z]{a:Z}:∀{es:List (Z × β)},assoc a es=none<->∀p,p∈es->p.1≠a
 |[]=>by simp[assoc]
 |(k,v)::es=>by
  simp only[assoc];split<;>rename_i h
  .simp only[List.mem_cons,reduceCtorEq,false_iff];intro q;exact q (k,v) (Or.inl rfl) h.symm
  .rw[GO];constructor
   .intro q p hp;rcases List.mem_cons.1 hp with hp|hp
    .subst hp;exact fun e=>h e.symm
    .exact q p hp
   .exact fun q p hp=>q p (List.mem_cons_of_mem _ hp)
theorem Kb{Z β:Type}[DecidableEq Z](a:Z)(fs:List (Z × β)):∀es:List (Z × β),assoc a (es++fs)=match assoc a es with|some v=>some v|none=>assoc a fs
 |[]=>rfl
 |(k,v)::es=>by
  simp only[cons_append,assoc];split
  .rfl
  .exact Kb a fs es
def Ng{Z:Type}[DecidableEq Z](kk:KK)(ek:Z->D):Prop:=∀a b,QZ kk (ek a) (ek b)=some (decide (a=b))
theorem Kh:Ng (.agg [.i,.i]) (fun r:Row=>.agg (Ar r)):=fun a b=>by simp only[QZ];exact SO a b
theorem Xf:Ng (.agg [.i,.i,.i]) (fun r:Nd=>.agg (C5 r)):=fun a b=>by simp only[QZ];exact iH a b
theorem keyE_i:Ng (.one .i) (fun r:Int=>.i .i64 r):=fun a b=>by simp only[QZ,HV,seq1,Bool.and_self,if_true];congr 1
section
variable {Z β:Type}[DecidableEq Z]{kk:KK}{ek:Z->D}{ev:β->D}
def C8(ek:Z->D)(ev:β->D)(es:List (Z × β)):List (D×D):=es.map fun p=>(ek p.1,ev p.2)
theorem fv(h:Ng kk ek)(a:Z):∀es:List (Z × β),yF kk (ek a) (C8 ek ev es)=some ((assoc a es).map ev)
 |[]=>rfl
 |(k,v)::es=>by
  simp only[C8,List.map_cons,yF,h a k,assoc];by_cases e:a=k
  .simp[e]
  .simp only[e,decide_false,if_false];exact fv h a es
theorem jZ(h:Ng kk ek)(a:Z)(b:β):∀es:List (Z × β),assoc a es=none->oy kk (ek a) (ev b) (C8 ek ev es)=some (C8 ek ev (es++[(a,b)]))
 |[],_=>rfl
 |(k,v)::es,q=>by
  simp only[assoc] at q;split at q
  .cases q
  .rename_i e;have:=jZ h a b es q;simp only[C8] at this;simp only[C8,List.map_cons,oy,h a k,e,decide_false,this,cons_append,map_some]
theorem Gk(h:Ng kk ek){a:Z}(hk:isKey kk (ek a)=true){S:A1}{id:Nat}{es:List (Z × β)}(hS:AA S id=some (.map (C8 ek ev es)))(ok:Bool)(z:D) :
  ON kk ok z S (.mp id) (ek a)=some (okD ok z ((assoc a es).map ev)):=by
 simp only[ON,hk,if_true,hS,fv h,map_some]
theorem KT(h:Ng kk ek){a:Z}{b:β}(hk:isKey kk (ek a)=true){S:A1}{id:Nat}{es:List (Z × β)}(hS:AA S id=some (.map (C8 ek ev es)))(ha:assoc a es=none) :
  O8 kk S (.mp id) (ek a) (ev b)=some (sset S id (.map (C8 ek ev (es++[(a,b)])))):=by
 simp only[O8,hk,if_true,hS,jZ h a b es ha,map_some]
end
@[simp] theorem okD_tn(z:D):okD true z none=.AY [z,.b false]:=(rfl)
@[simp] theorem okD_ts(z v:D):okD true z (some v)=.AY [v,.b true]:=(rfl)
@[simp] theorem okD_fn(z:D):okD false z none=z:=(rfl)
@[simp] theorem uf(z v:D):okD false z (some v)=v:=(rfl)
end Go.Proofs.YtjniafcnjbbomaaGreatDoor.DE.V
namespace Go.Proofs.YtjniafcnjbbomaaGreatDoor.NL
abbrev B:Nat:=4294967296
def val:List Nat->Nat
 |[]=>0
 |x::l=>x+B*val l
def CA(l:List Nat):Prop:=∀x,x∈l->x<B
def Can(l:List Nat):Prop:=CA l/\l.getLast? ≠ some 0
theorem BZ:∀(a b:List Nat),val (a++b)=val a+B^a.length*val b
 |[],b=>by simp[val]
 |x::a,b=>by simp only[cons_append,val,BZ a b,length_cons,pow_succ,mul_add];rw[mul_comm (B^a.length) B,mul_assoc,add_assoc]
theorem CA.cons{x:Nat}{l:List Nat}(h:CA (x::l)):x<B/\CA l:=⟨h x (by simp),fun y hy=>h y (by simp[hy])⟩
theorem CY:∀{l:List Nat},CA l->val l<B^l.length
 |[],_=>by simp[val]
 |x::l,h=>by have h1:=h.cons.1;have h2:=CY h.cons.2;simp only[val,length_cons,pow_succ];have h3:B*(val l+1)<=B*B^l.length:=mul_le_mul_left B h2;rw[mul_add,mul_one] at h3;rw[mul_comm (B^l.length) B];omega
theorem Can.cons{x:Nat}{l:List Nat}(h:Can (x::l)):x<B/\Can l:=by
 refine⟨h.1.cons.1,h.1.cons.2,?_⟩;cases l with
 |nil=>simp
 |cons y m=>have:=h.2;rwa [List.getLast?_cons_cons] at this
theorem Can.pos:∀{l:List Nat},Can l->l≠[]->0<val l
 |[],_,h=>absurd rfl h
 |[x],h,_=>by have:=h.2;simp only[List.getLast?_singleton,ne_eq,Option.some.injEq] at this;simp only[val];omega
 |x::y::l,h,_=>by have:=Can.pos h.cons.2 (by simp);simp only[val] at this ⊢;have h2:0<B*(y+B*val l):=mul_pos (by decide) this;omega
theorem iw:∀{a b:List Nat},Can a->Can b->val a=val b->a=b
 |[],[],_,_,_=>rfl
 |[],y::b,_,hb,e=>by have:=hb.pos (by simp);simp only[val] at e this;omega
 |x::a,[],ha,_,e=>by have:=ha.pos (by simp);simp only[val] at e this;omega
 |x::a,y::b,ha,hb,e=>by
  have h1:=ha.cons.1;have h2:=hb.cons.1;simp only[val] at e
  have hx:x=y:=by
   have:=congrArg (· % B) e;simp only[Nat.add_mul_mod_self_left] at this
   rwa [mod_eq_of_lt h1,mod_eq_of_lt h2] at this
  subst hx;have hv:val a=val b:=Nat.eq_of_mul_eq_mul_left (by decide:0<B) (by omega);rw[iw ha.cons.2 hb.cons.2 hv]
section
variable {β t nx a b c P dl ul d U:Nat}
theorem q_le(hd:d=(t * β+nx)*P+dl)(hU:U=((a * β+b) * β+c)*P+ul)(hul:ul<P)(q:Nat)(hq:q*d<=U):q*(t * β+nx)<=(a * β+b) * β+c:=by
 generalize t * β+nx=D at *;generalize(a * β+b) * β+c=V at *;subst hd hU
 have h1:q*D*P<(V+1)*P:=by
  rw[add_mul,one_mul];have:q*(D*P+dl)=q*D*P+q*dl:=by rw[mul_add,mul_assoc]
  rw[this] at hq;omega
 exact Nat.lt_succ_iff.1 (Nat.lt_of_mul_lt_mul_right h1)
theorem qZ(hd:d=(t * β+nx)*P+dl)(hU:U=((a * β+b) * β+c)*P+ul)(hdl:dl<P)(g:Nat)(hg:g*(t * β+nx)<=(a * β+b) * β+c)(hgD:g<=t * β+nx+1)(h1:1<=g):(g-1)*d<=U:=by
 generalize t * β+nx=D at *;generalize(a * β+b) * β+c=V at *;obtain⟨k,rfl⟩:∃k,g=k+1:=⟨g-1,by omega⟩
 simp only[Nat.add_sub_cancel];subst hd hU;have h2:k*(D*P+dl)<=k*((D+1)*P):=mul_le_mul_left k (by rw[add_mul,one_mul];omega)
 have h3:k*(D+1)<=V:=by
  have:(k+1)*D=k*D+D:=by rw[add_mul,one_mul]
  rw[mul_add,mul_one];omega
 calc k*(D*P+dl)<=k*((D+1)*P):=h2
  _=k*(D+1)*P:=by rw[mul_assoc]
  _<=V*P:=mul_le_mul_right P h3
  _<=V*P+ul:=Nat.le_add_right _ _
theorem wK{g r q:Nat}(hh:g*t+r=a * β+b)(hq:q*(t * β+nx)<=(a * β+b) * β+c)(h:r * β+c<g*nx):q<g:=by
 have h1:(a * β+b) * β+c<g*(t * β+nx):=by rw[<-hh,add_mul,mul_add];have:g*t * β=g*(t * β):=mul_assoc _ _ _;omega
 exact Nat.lt_of_mul_lt_mul_right (lt_of_le_of_lt hq h1)
theorem nh{g r:Nat}(hh:g*t+r=a * β+b)(h:g*nx<=r * β+c):g*(t * β+nx)<=(a * β+b) * β+c:=by rw[<-hh,add_mul,mul_add];have:g*t * β=g*(t * β):=mul_assoc _ _ _;omega
theorem aG{q:Nat}(hβ:c<β)(hq:q*(t * β+nx)<=(a * β+b) * β+c):q*t<=a * β+b:=by
 have h1:q*t * β<(a * β+b+1) * β:=by
  rw[mul_add] at hq;have e1:q*(t * β)=q*t * β:=(mul_assoc _ _ _).symm;have e2:(a * β+b+1) * β=(a * β+b) * β+β:=by rw[add_mul (a * β+b),one_mul]
  omega
 exact Nat.lt_succ_iff.1 (Nat.lt_of_mul_lt_mul_right h1)
end
theorem CU:0<B:=by decide
theorem Bp(k:Nat):0<B^k:=Nat.pow_pos CU
def B1(n:Nat):List Nat:=if _h:n=0 then[] else n%B::B1 (n/B)
termination_by n
decreasing_by exact div_lt_self (Nat.pos_of_ne_zero _h) (show 1<B by decide)
theorem G5:B1 0=[]:=by rw[B1];simp
theorem RV{n:Nat}(h:n≠0):B1 n=n%B::B1 (n/B):=by rw[B1];simp[h]
theorem CB(n:Nat):val (B1 n)=n:=by
 induction n using Nat.strongRecOn with
 |_ n ih=>
  by_cases h:n=0
  .subst h;rw[G5];rfl
  .rw[RV h,val,ih _ (div_lt_self (Nat.pos_of_ne_zero h) (show 1<B by decide))];exact mod_add_div n B
theorem CS(n:Nat):CA (B1 n):=by
 induction n using Nat.strongRecOn with
 |_ n ih=>
  by_cases h:n=0
  .subst h;rw[G5];intro x hx;cases hx
  .rw[RV h];intro x hx;rcases List.mem_cons.1 hx with hx|hx
   .subst hx;exact mod_lt _ CU
   .exact ih _ (div_lt_self (Nat.pos_of_ne_zero h) (show 1<B by decide)) x hx
theorem Zn(n:Nat):(B1 n).getLast? ≠ some 0:=by
 induction n using Nat.strongRecOn with
 |_ n ih=>
  by_cases h:n=0
  .subst h;rw[G5];simp
  .rw[RV h];by_cases h2:n/B=0
   .rw[h2,G5];have:n%B=n:=mod_eq_of_lt ((Nat.div_eq_zero_iff_lt CU).1 h2);simp[this,h]
   .have:=ih _ (div_lt_self (Nat.pos_of_ne_zero h) (show 1<B by decide));rw[RV h2] at this ⊢;rw[List.getLast?_cons_cons];exact this
theorem gZ(n:Nat):Can (B1 n):=⟨CS n,Zn n⟩
theorem MR{l:List Nat}(h:Can l):B1 (val l)=l:=iw (gZ _) h (CB _)
theorem gu{n m:Nat}(h:B1 n=B1 m):n=m:=by rw[<-CB n,h,CB]
theorem Mp{n:Nat}:B1 n=[]<->n=0:=⟨fun h=>gu (h.trans G5.symm),fun h=>by rw[h,G5]⟩
theorem WW{n k:Nat}(h:n<B^k):(B1 n).length<=k:=by
 rcases lt_or_ge k (B1 n).length with q|q
 .have hc:=gZ n;have CF:B1 n≠[]:=by intro e;rw[e] at q;simp at q
  obtain⟨x,hx⟩:∃x,(B1 n).getLast? = some x:=by
   cases hh:(B1 n).getLast? with
   |none=>exact absurd (List.getLast?_eq_none_iff.1 hh) CF
   |some x=>exact⟨x,rfl⟩
  obtain⟨ys,e⟩:=List.getLast?_eq_some_iff.1 hx;have hx0:x≠0:=by rintro rfl;exact hc.2 hx
  have hv:n=val (ys++[x]):=by rw[<-e,CB]
  rw[BZ] at hv;have hl:(B1 n).length=ys.length+1:=by rw[e];simp
  have hp:B^k<=B^ys.length:=pow_le_pow_right CU (by omega);have:B^ys.length*1<=B^ys.length*val [x]:=mul_le_mul_left _ (by simp only[val];omega);omega
 .exact q
theorem VH{n k:Nat}(h:(B1 n).length<=k):n<B^k:=by have:=CY (CS n);rw[CB] at this;exact lt_of_lt_of_le this (pow_le_pow_right CU h)
def dg(l:List Nat)(i:Nat):Nat:=(l[i]?).getD 0
theorem dg_get{l:List Nat}{i x:Nat}(h:l[i]? = some x):dg l i=x:=by simp[dg,h]
theorem Q7{l:List Nat}{i:Nat}(h:l.length<=i):dg l i=0:=by simp[dg,List.getElem?_eq_none h]
theorem Jk{l:List Nat}{i:Nat}(h:i<l.length):l[i]? = some (dg l i):=by simp[dg,List.getElem?_eq_getElem h]
theorem C0{l:List Nat}(h:CA l)(i:Nat):dg l i<B:=by
 rcases lt_or_ge i l.length with q|q
 .exact h _ (List.mem_of_getElem? (Jk q))
 .rw[Q7 q];exact CU
theorem CK(l:List Nat)(k:Nat):val (l.take (k+1))=val (l.take k)+B^k*dg l k:=by
 rcases lt_or_ge k l.length with q|q
 .rw[take_add_one,Jk q,BZ];simp[val,min_eq_left (le_of_lt q)]
 .rw[Q7 q,take_of_length_le q,take_of_length_le (by omega)];simp
theorem Ce{l:List Nat}{k:Nat}(h:l.length<=k):val (l.take k)=val l:=by rw[take_of_length_le h]
theorem Jx:∀{l:List Nat} {i:Nat} (x:Nat),i<l.length->val (l.set i x)+B^i*dg l i=val l+B^i*x
 |[],_,_,h=>by simp at h
 |y::l,0,x,_=>by simp[val,dg];omega
 |y::l,i+1,x,h=>by
  have:=Jx (l:=l) (i:=i) x (by simpa using h);have e:dg (y::l) (i+1)=dg l i:=by simp[dg]
  rw[e];simp only[List.set_cons_succ,val,pow_succ];have e1:B^i*B*dg l i=B*(B^i*dg l i):=by rw[mul_comm (B^i) B,mul_assoc]
  have e2:B^i*B*x=B*(B^i*x):=by rw[mul_comm (B^i) B,mul_assoc]
  rw[e1,e2];have:=congrArg (B * ·) this;simp only[mul_add] at this;omega
theorem Kk{l:List Nat}{i:Nat}(x:Nat)(h:i<l.length)(h0:dg l i=0):val (l.set i x)=val l+B^i*x:=by have:=Jx x h;rw[h0] at this;simpa using this
theorem En{l:List Nat}{i x:Nat}(h:CA l)(hx:x<B):CA (l.set i x):=by
 intro y hy;rcases List.mem_or_eq_of_mem_set hy with q|q
 .exact h y q
 .rw[q];exact hx
theorem EK{l:List Nat}{i j x:Nat}(h:i≠j):dg (l.set i x) j=dg l j:=by simp[dg,List.getElem?_set_ne h]
theorem sv{l:List Nat}{i x:Nat}(h:i<l.length):dg (l.set i x) i=x:=by simp[dg,h]
theorem HH:∀n,val (replicate n 0)=0
 |0=>rfl
 |n+1=>by simp[List.replicate_succ,val,HH n]
theorem HI(n:Nat):CA (replicate n 0):=by intro x hx;rw[(List.mem_replicate.1 hx).2];exact CU
theorem JT(n i:Nat):dg (replicate n 0) i=0:=by
 rcases lt_or_ge i n with q|q
 .exact dg_get (by simp[q])
 .exact Q7 (by simpa using q)
theorem Cf{l:List Nat}(k:Nat)(h:CA l):CA (l.take k):=fun x hx=>h x (List.mem_of_mem_take hx)
theorem KW{l:List Nat}(k:Nat)(h:CA l):CA (l.drop k):=fun x hx=>h x (List.mem_of_mem_drop hx)
theorem RW{a b:List Nat}(h:CA a)(k:CA b):CA (a++b):=by
 intro y hy;rcases List.mem_append.1 hy with q|q
 .exact h y q
 .exact k y q
theorem dY{a b:List Nat}(ha:CA a)(hb:Can b)(h:a.length<b.length):val a<val b:=by
 have h1:=CY ha;have h2:b.length<=(B1 (val b)).length:=by rw[MR hb];exact le_refl _
 rcases lt_or_ge (val b) (B^a.length) with q|q
 .have:=WW q;omega
 .omega
theorem lt_at{a b:List Nat}{k x y:Nat}(ha:CA a)(hd:a.drop (k+1)=b.drop (k+1))(hx:a[k]? = some x)(hy:b[k]? = some y)(h:x<y):val a<val b:=by
 have e1:a=a.take k++(x::a.drop (k+1)):=by
  have:a.drop k=x::a.drop (k+1):=by obtain⟨hk,rfl⟩:=List.getElem?_eq_some_iff.1 hx;exact List.drop_eq_getElem_cons hk
  rw[<-this,take_append_drop]
 have e2:b=b.take k++(y::b.drop (k+1)):=by
  have:b.drop k=y::b.drop (k+1):=by obtain⟨hk,rfl⟩:=List.getElem?_eq_some_iff.1 hy;exact List.drop_eq_getElem_cons hk
  rw[<-this,take_append_drop]
 have hka:k<a.length:=(List.getElem?_eq_some_iff.1 hx).1;have hkb:k<b.length:=(List.getElem?_eq_some_iff.1 hy).1;have v1:=congrArg val e1;have v2:=congrArg val e2;rw[BZ] at v1 v2;simp only[val,length_take,min_eq_left (le_of_lt hka),min_eq_left (le_of_lt hkb),<-hd] at v1 v2;have l1:=CY (Cf k ha);rw[length_take,min_eq_left (le_of_lt hka)] at l1;have l2:B^k*(x+1+B*val (a.drop (k+1)))<=B^k*(y+B*val (a.drop (k+1))):=mul_le_mul_left _ (by omega)
 have e:B^k*(x+1+B*val (a.drop (k+1)))=B^k*(x+B*val (a.drop (k+1)))+B^k:=by rw[show x+1+B*val (a.drop (k+1))=(x+B*val (a.drop (k+1)))+1 by omega,mul_add,mul_one]
 omega
def bS(x y:Nat):Int:=if x<y then -1 else if x=y then 0 else 1
theorem top2{l:List Nat}{m:Nat}(h:l.length=m+2):val l=(dg l (m+1)*B+dg l m)*B^m+val (l.take m):=by
 have e:=Ce (l:=l) (k:=m+2) (by omega);rw[<-e,CK,CK];simp only[pow_succ];clear e;generalize dg l (m+1)=x;generalize dg l m=y;generalize B^m=p;generalize B=b
 grind
theorem top3{l:List Nat}{m:Nat}(h:l.length=m+3):val l=((dg l (m+2)*B+dg l (m+1))*B+dg l m)*B^m+val (l.take m):=by
 have e:=Ce (l:=l) (k:=m+3) (by omega);rw[<-e,CK,CK,CK];simp only[pow_succ];clear e;generalize dg l (m+2)=x;generalize dg l (m+1)=y;generalize dg l m=z;generalize B^m=p;generalize B=b
 grind
structure Qn(d w:List Nat)(m:Nat):Prop where
 ld:d.length=m+2
 lw:w.length=m+3
 hd:CA d
 hw:CA w
 top:B<=2*dg d (m+1)
 lt:val w<val d*B
section
variable {d w:List Nat}{m:Nat}
theorem Qn.eD(h:Qn d w m):val d=(dg d (m+1)*B+dg d m)*B^m+val (d.take m):=top2 h.ld
theorem Qn.eW(h:Qn d w m):val w=((dg w (m+2)*B+dg w (m+1))*B+dg w m)*B^m+val (w.take m):=top3 h.lw
theorem Qn.dl(h:Qn d w m):val (d.take m)<B^m:=by
 have:=CY (Cf m h.hd)
 rwa [length_take,min_eq_left (by have:=h.ld;omega)] at this
theorem Qn.wl(h:Qn d w m):val (w.take m)<B^m:=by
 have:=CY (Cf m h.hw)
 rwa [length_take,min_eq_left (by have:=h.lw;omega)] at this
theorem Qn.AAC(h:Qn d w m):0<dg d (m+1):=by have:=h.top;unfold B at this;omega
theorem Qn.qY(h:Qn d w m):0<val d:=by rw[h.eD];have:=mul_pos (mul_pos h.AAC CU) (Bp m);rw[add_mul];omega
theorem Qn.qd(_:Qn d w m):val w/val d*val d<=val w:=Nat.div_mul_le_self _ _
theorem Qn.qB(h:Qn d w m):val w/val d<B:=Nat.div_lt_of_lt_mul h.lt
theorem Qn.a_le(h:Qn d w m):dg w (m+2)<=dg d (m+1):=by
 rcases lt_or_ge (dg d (m+1)) (dg w (m+2)) with q|q
 .exfalso;have hl:=h.lt
  have h1:val d<(dg d (m+1)+1)*B^(m+1):=by have e:=Ce (l:=d) (k:=m+2) (by have:=h.ld;omega);rw[<-e,CK];have:=CY (Cf (m+1) h.hd);rw[length_take,min_eq_left (by have:=h.ld;omega)] at this;rw[add_mul,one_mul,mul_comm (dg d (m+1))];omega
  have h2:dg w (m+2)*B^(m+2)<=val w:=by have e:=Ce (l:=w) (k:=m+3) (by have:=h.lw;omega);rw[<-e,CK,mul_comm];omega
  have h3:(dg d (m+1)+1)*B^(m+2)<=dg w (m+2)*B^(m+2):=mul_le_mul_right _ q;have h4:val d*B<(dg d (m+1)+1)*B^(m+1)*B:=Nat.mul_lt_mul_of_pos_right h1 CU;rw[mul_assoc,<-pow_succ] at h4;have h5:(m+1).succ=m+2:=rfl;rw[h5] at h4;omega
 .exact q
structure Gs(d w:List Nat)(m g r:Nat):Prop where
 eq:g*dg d (m+1)+r=dg w (m+2)*B+dg w (m+1)
 le:val w/val d<=g
theorem tR(h:Qn d w m):Gs d w m ((dg w (m+2)*B+dg w (m+1))/dg d (m+1)) ((dg w (m+2)*B+dg w (m+1))%dg d (m+1)):=by
 refine⟨?_,?_⟩
 .rw[mul_comm];exact div_add_mod _ _
 .have h1:=q_le h.eD h.eW h.wl _ h.qd;exact(le_div_iff_mul_le h.AAC).2 (aG (C0 h.hw m) h1)
theorem zK{g r:Nat}(h:Qn d w m)(k:Gs d w m g r)(hc:B<=g\/r*B+dg w m<g*dg d m):1<=g/\Gs d w m (g-1) (r+dg d (m+1)):=by
 have Ap:val w/val d<g:=by
  rcases hc with hc|hc
  .exact lt_of_lt_of_le h.qB hc
  .exact wK k.eq (q_le h.eD h.eW h.wl _ h.qd) hc
 have hk:=k.eq;have hl:=k.le;clear k;generalize hq:val w/val d=q at *;refine⟨by omega,?_,by rw[hq];omega⟩;rw[<-hk];obtain⟨p,rfl⟩:∃p,g=p+1:=⟨g-1,by omega⟩
 simp only[Nat.add_sub_cancel,add_mul,one_mul];omega
structure Good(d w:List Nat)(g:Nat):Prop where
 lt:g<B
 le:val w/val d<=g
 ge:g<=val w/val d+1
theorem ry{g r:Nat}(h:Qn d w m)(k:Gs d w m g r)(hg:g<B)(hc:g*dg d m<=r*B+dg w m):Good d w g:=by
 refine⟨hg,k.le,?_⟩;rcases Nat.eq_zero_or_pos g with h0|h0
 .rw[h0];exact Nat.zero_le _
 .have h1:=nh k.eq hc
  have hD:g<=dg d (m+1)*B+dg d m+1:=by have:1*B<=dg d (m+1)*B:=mul_le_mul_right _ h.AAC;omega
  have h2:=qZ h.eD h.eW h.dl g h1 hD h0;have h3:=(le_div_iff_mul_le h.qY).2 h2;generalize val w/val d=q at *;omega
theorem vM{g r:Nat}(h:Qn d w m)(k:Gs d w m g r)(hr:B<=r):Good d w g:=by
 have hg:g<B:=by
  have h1:=k.eq;have h2:dg w (m+2)*B<=dg d (m+1)*B:=mul_le_mul_right _ h.a_le;have h3:=C0 h.hw (m+1);have h4:g*dg d (m+1)<B*dg d (m+1):=by rw[mul_comm B];omega
  exact Nat.lt_of_mul_lt_mul_right h4
 refine ry h k hg ?_;have h1:=C0 h.hd m;have h2:g*dg d m<=B*B:=mul_le_mul (le_of_lt hg) (le_of_lt h1);have h3:B*B<=r*B:=mul_le_mul_right _ hr;omega
theorem red_ok{g:Nat}{w':List Nat}(h:Qn d w m)(k:Good d w g)(e:val w'+g*val d=val w):g=val w/val d/\val w'=val w%val d:=by have h1:g<=val w/val d:=(le_div_iff_mul_le h.qY).2 (by omega);have h2:g=val w/val d:=Nat.le_antisymm h1 k.le;refine⟨h2,?_⟩;have:=div_add_mod (val w) (val d);rw[<-h2,mul_comm] at this;omega
theorem tX{g z:Nat}{w' w'':List Nat}(h:Qn d w m)(k:Good d w g)(hl:w'.length=m+3)(hL:CA w')(e:val w'+g*val d=val w+B^(m+3))(ab:w''.length=m+3)(hL':CA w'')(e':val w''+B^(m+3)*z=val w'+val d) :
  1<=g/\g-1=val w/val d/\val w''=val w%val d:=by
 have h1:=CY hL;rw[hl] at h1;have h1':=CY hL';rw[ab] at h1';have h2:val w<g*val d:=by omega
 have h3:val w/val d<g:=(div_lt_iff_lt_mul h.qY).2 h2;have h4:g=val w/val d+1:=by have:=k.ge;generalize val w/val d=q at *;omega
 refine⟨by generalize val w/val d=q at *;omega,by generalize val w/val d=q at *;omega,?_⟩;have h5:=div_add_mod (val w) (val d);have h6:=mod_lt (val w) h.qY
 have h7:val d<B^(m+3):=by have:=CY h.hd;rw[h.ld] at this;exact lt_of_lt_of_le this (pow_le_pow_right CU (by omega))
 rw[h4,add_mul,one_mul,mul_comm] at e;generalize val w/val d=q at *;generalize val w%val d=s at *;have e2:val w''+B^(m+3)*z=s+B^(m+3):=by omega
 have hz:z=1:=by
  rcases lt_or_ge z 1 with q|q
  .have:z=0:=by omega
   subst this;omega
  .rcases lt_or_ge 1 z with q'|q'
   .have:B^(m+3)*2<=B^(m+3)*z:=mul_le_mul_left _ q';omega
   .omega
 rw[hz,mul_one] at e2;omega
end
theorem dg_val{l:List Nat}(h:CA l)(j:Nat):dg l j=val l/B^j%B:=by
 rcases lt_or_ge j l.length with q|q
 .have e:l=l.take j++(dg l j::l.drop (j+1)):=by
   have:l.drop j=dg l j::l.drop (j+1):=by rw[List.drop_eq_getElem_cons q];simp[dg,List.getElem?_eq_getElem q]
   rw[<-this,take_append_drop]
  have hv:=congrArg val e;rw[BZ,length_take,min_eq_left (le_of_lt q)] at hv;have hl:=CY (Cf j h);rw[length_take,min_eq_left (le_of_lt q)] at hl;have hd:=C0 h j;rw[hv,add_mul_div_left _ _ (Bp j),div_eq_of_lt hl,zero_add];simp only[val];rw[Nat.add_mul_mod_self_left,mod_eq_of_lt hd]
 .rw[Q7 q];have:=CY h;have hp:B^l.length<=B^j:=pow_le_pow_right CU q;rw[div_eq_of_lt (by omega)];rfl
theorem gH:B=2^32:=rfl
abbrev Fq:=Nat×Nat
def BO(n:Nat):Prop:=n<B^128
instance (n:Nat):Decidable (BO n):=inferInstanceAs (Decidable (n<B^128))
theorem Em(n:Nat):BO n<->(B1 n).length<=128:=⟨WW,VH⟩
structure VQ(q:Fq):Prop where
 pos:0<q.2
 gcd:Nat.gcd q.1 q.2=1
 f1:BO q.1
 f2:BO q.2
def red(n d:Nat):Fq:=(n/Nat.gcd n d,d/Nat.gcd n d)
theorem cG{n d:Nat}(h:0<d)(h1:BO n)(h2:BO d):VQ (red n d):=by have hg:0<Nat.gcd n d:=Nat.gcd_pos_of_pos_right _ h;exact⟨Nat.div_gcd_pos_of_pos_right _ h,Nat.gcd_div_gcd_div_gcd_of_pos_right h,lt_of_le_of_lt (div_le_self _ _) h1,lt_of_le_of_lt (div_le_self _ _) h2⟩
def Gn(a b:Fq):Option Fq:=if BO (a.1*b.1)/\BO (a.2*b.2) then some (red (a.1*b.1) (a.2*b.2)) else none
def Mw(a b:Fq):Option Fq:=if(BO (a.1*b.2)/\BO (b.1*a.2)/\BO (a.2*b.2))/\BO (a.1*b.2+b.1*a.2) then some (red (a.1*b.2+b.1*a.2) (a.2*b.2)) else none
def CQ(a:Fq):Fq:=(a.2-a.1,a.2)
theorem O6{a b c:Fq}(ha:VQ a)(hb:VQ b)(h:Gn a b=some c):VQ c:=by
 unfold Gn at h;split at h
 .rename_i k;injection h with h;subst h
  exact cG (mul_pos ha.pos hb.pos) k.1 k.2
 .cases h
theorem tI{a b c:Fq}(ha:VQ a)(hb:VQ b)(h:Mw a b=some c):VQ c:=by
 unfold Mw at h;split at h
 .rename_i k;injection h with h;subst h
  exact cG (mul_pos ha.pos hb.pos) k.2 k.1.2.2
 .cases h
theorem Ug{a:Fq}(h:a.1<=a.2):Nat.gcd (a.2-a.1) a.2=Nat.gcd a.1 a.2:=by rw[Nat.gcd_self_sub_left h]
theorem Ou{a:Fq}(ha:VQ a)(h:a.1<=a.2):VQ (CQ a):=
 ⟨ha.pos,by rw[CQ];exact(Ug h).trans ha.gcd,lt_of_le_of_lt (Nat.sub_le _ _) ha.f2,ha.f2⟩
theorem mh{a:Fq}(ha:VQ a)(h:a.1<=a.2):red (a.2-a.1) a.2=CQ a:=by have:=(Ug h).trans ha.gcd;simp only[red,this,Nat.div_one,CQ]
theorem RC:VQ (0,1):=⟨by decide,by decide,Nat.pow_pos CU,Nat.one_lt_pow (by decide) (by decide)⟩
theorem Pf:VQ (1,1):=⟨by decide,by decide,Nat.one_lt_pow (by decide) (by decide),Nat.one_lt_pow (by decide) (by decide)⟩
theorem NJ(l:List Nat)(k:Nat)(h:k<=l.length):val l=val (l.take k)+B^k*val (l.drop k):=by have e:=congrArg val (take_append_drop k l);rw[BZ,length_take,min_eq_left h] at e;exact e.symm
theorem QM{l:List Nat}(h:CA l)(k:Nat):val (l.take k)<B^k:=by have:=CY (Cf k h);exact lt_of_lt_of_le this (pow_le_pow_right CU (by rw[length_take];omega))
theorem Ov{l:List Nat}(h:CA l)(k:Nat):val (l.drop k)=val l/B^k:=by
 rcases lt_or_ge k l.length with q|q
 .rw[NJ l k (le_of_lt q),add_mul_div_left _ _ (Bp k),div_eq_of_lt (QM h k),zero_add]
 .rw[drop_of_length_le q];have:=CY h;have hp:B^l.length<=B^k:=pow_le_pow_right CU q;rw[div_eq_of_lt (by omega)];rfl
theorem MY{l:List Nat}{k:Nat}(h:k<l.length):l.drop k=dg l k::l.drop (k+1):=by rw[List.drop_eq_getElem_cons h];simp[dg,List.getElem?_eq_getElem h]
theorem bU{l:List Nat}{V:Nat}(hV:V<B^l.length)(h:∀i,i<l.length->dg l i=V/B^i%B):val l=V:=by
 have key:∀k,k<=l.length->val (l.take k)=V%B^k:=by
  intro k
  induction k with
  |zero=>intro _;simp[val,Nat.mod_one]
  |succ k ih=>
   intro hk;rw[CK,ih (by omega),h k (by omega),pow_succ,Nat.mod_mul]
 have:=key l.length (le_refl _)
 rwa [List.take_length,mod_eq_of_lt hV] at this
theorem wM{l:List Nat}(h:CA l){s i:Nat}(hs:s<32)(hi:i<l.length):(dg l i+dg l (i+1)*B)/2^s%B=val l/2^s/B^i%B:=by
 have e1:val l/2^s/B^i=val l/B^i/2^s:=by rw[Nat.div_div_eq_div_mul,Nat.div_div_eq_div_mul,mul_comm]
 rw[e1,<-Ov h,MY hi]
 have e2:val (l.drop (i+1))=dg l (i+1)+B*val (l.drop (i+2)):=by
  rcases lt_or_ge (i+1) l.length with q|q
  .rw[MY q];rfl
  .rw[drop_of_length_le q,drop_of_length_le (by omega),Q7 q];rfl
 simp only[val];rw[e2];generalize dg l i=x;generalize dg l (i+1)=y;generalize val (l.drop (i+2))=z;have eB:B=2^s*2^(32-s):=by rw[gH,<-pow_add];congr 1;omega
 have e3:x+B*(y+B*z)=(x+y*B)+2^s*(2^(32-s)*z*B):=by
  have:B*(B*z)=2^s*(2^(32-s)*z*B):=by generalize hb:B=b at *;generalize 2^s=p at *;generalize 2^(32-s)=t at *;rw[eB];grind
  rw[mul_add,this,mul_comm B y];omega
 rw[e3,add_mul_div_left _ _ (two_pow_pos s),Nat.add_mul_mod_self_right]
theorem bh{x y s:Nat}(h:x<2^s):x |||y*2^s=x+y*2^s:=by have:=Nat.two_pow_add_eq_or_of_lt h y;rw[Nat.or_comm,mul_comm y,<-this];omega
theorem yW{c x s:Nat}(hs:s<32)(h:c<2^s):c |||x*2^s%B=c+x*2^s%B/\c+x*2^s%B<B:=by
 have eB:B=2^(32-s)*2^s:=by rw[gH,<-pow_add];congr 1;omega
 have e:x*2^s%B=(x%2^(32-s))*2^s:=by rw[eB,Nat.mul_mod_mul_right]
 rw[e];refine⟨bh h,?_⟩;have h1:x%2^(32-s)<2^(32-s):=mod_lt _ (two_pow_pos _);have h2:(x%2^(32-s)+1)*2^s<=2^(32-s)*2^s:=mul_le_mul_right _ h1;rw[<-eB,add_mul,one_mul] at h2;omega
theorem left_hi{x s:Nat}(hx:x<B):x*2^s/B<2^s:=by rw[div_lt_iff_lt_mul CU,mul_comm (2^s)];exact Nat.mul_lt_mul_of_pos_right hx (two_pow_pos s)
theorem ZF{X d x:Nat}(hd:0<d):(x+B*X)/d=(X%d*B+x)/d+B*(X/d)/\(x+B*X)%d=(X%d*B+x)%d:=by
 have h:=div_add_mod X d
 have e:x+B*X=(X%d*B+x)+d*(B*(X/d)):=by generalize X/d=q at *;generalize X%d=r at *;rw[<-h,mul_add,Nat.mul_left_comm B d q,mul_comm B r];omega
 rw[e,add_mul_div_left _ _ hd,Nat.add_mul_mod_self_left];exact⟨rfl,rfl⟩
theorem o8{r d x:Nat}(hr:r<d)(hx:x<B):(r*B+x)/d<B:=by rw[div_lt_iff_lt_mul (by omega)];have h:(r+1)*B<=d*B:=mul_le_mul_right _ hr;rw[add_mul,one_mul] at h;rw[mul_comm B d];omega
structure DM(d u q:List Nat)(A la m k:Nat):Prop where
 ld:d.length=m+2
 hd:CA d
 top:B<=2*dg d (m+1)
 lu:u.length=la+1
 hu:CA u
 hq:CA q
 lq:q.length+(m+2)=la+1
 xX:k<=q.length
 lt:val (u.drop k)<val d
 eq:val u+val d*val q=A
 z:∀j,j<k->dg q j=0
def win(u:List Nat)(at' m:Nat):List Nat:=(u.drop at').take (m+3)
theorem DM.cut{d u q:List Nat}{A la m k:Nat}(h:DM d u q A la m (k+1)):Qn d (win u k m) m/\val (u.drop (k+(m+3)))=0/\u=u.take k++(win u k m++u.drop (k+(m+3)))/\(u.take k).length=k:=by
 have hlen:(win u k m).length=m+3:=by simp only[win,length_take,List.length_drop];have h1:=h.lu;have h2:=h.lq;have h3:=h.xX;omega
 have e0:u.drop k=win u k m++u.drop (k+(m+3)):=by have:=take_append_drop (m+3) (u.drop k);rw[drop_drop] at this;exact this.symm
 have hdlt:val d<B^(m+2):=by have:=CY h.hd;rwa [h.ld] at this
 have hku:k<u.length:=by have h1:=h.lu;have h2:=h.lq;have h3:=h.xX;omega
 have e1:=MY hku
 have hz:val (u.drop (k+(m+3)))=0:=by have hx:=Ov (KW (k+1) h.hu) (m+2);rw[drop_drop] at hx;rw[show k+(m+3)=k+1+(m+2) by omega,hx];exact div_eq_of_lt (lt_trans h.lt hdlt)
 refine⟨⟨h.ld,hlen,h.hd,Cf _ (KW _ h.hu),h.top,?_⟩,hz,?_,?_⟩
 .have v1:=congrArg val e0;rw[BZ,hz,e1] at v1;simp only[val,mul_zero,add_zero] at v1;rw[<-v1];have h1:=C0 h.hu k;have h2:B*(val (u.drop (k+1))+1)<=B*val d:=mul_le_mul_left _ h.lt;rw[mul_add,mul_one] at h2;rw[mul_comm (val d)];omega
 .rw[<-e0,take_append_drop]
 .rw[length_take];omega
theorem DM.step{d u q:List Nat}{A la m k g:Nat}{w:List Nat}(h:DM d u q A la m (k+1))(hg:g=val (win u k m)/val d)(hw:val w=val (win u k m)%val d)(hl:w.length=m+3)(hL:CA w) :
  DM d (u.take k++(w++u.drop (k+(m+3)))) (q.set k g) A la m k:=by
 obtain⟨W,hz,hu,ND⟩:=h.cut;have hdm:=div_add_mod (val (win u k m)) (val d);rw[<-hg,<-hw] at hdm;have hgB:g<B:=by rw[hg];exact W.qB
 have hkq:k<q.length:=h.xX;have hwd:val w<val d:=by rw[hw];exact mod_lt _ W.qY
 refine⟨h.ld,h.hd,h.top,?_,?_,En h.hq hgB,?_,?_,?_,?_,?_⟩
 .have h1:=h.lu;have h2:=congrArg List.length hu;simp only[List.length_append,ND,hl,W.lw] at h2 ⊢;omega
 .exact RW (Cf _ h.hu) (RW hL (KW _ h.hu))
 .rw[length_set];exact h.lq
 .rw[length_set];omega
 .rw[List.drop_append_of_le_length (by omega),drop_of_length_le (by omega),nil_append,BZ,hz];omega
 .have h1:=h.eq;have h2:=Kk g hkq (h.z k (by omega));rw[hu,BZ,BZ,hz,ND] at h1;rw[BZ,BZ,hz,ND,h2];have h3:B^k*(val d*g+val w)=B^k*val (win u k m):=by rw[hdm]
  simp only[mul_zero,add_zero] at h1 ⊢;rw[mul_add] at h3;rw[mul_add,Nat.mul_left_comm (val d)];omega
 .intro j hj;rw[EK (by omega)];exact h.z j (by omega)
theorem DM.fin{d u q:List Nat}{A la m:Nat}(h:DM d u q A la m 0):val q=A/val d/\val u=A%val d:=by have h1:=h.lt;simp only[drop_zero] at h1;have h2:=h.eq;rw[<-h2,add_mul_div_left _ _ (by omega),div_eq_of_lt h1,Nat.add_mul_mod_self_left,mod_eq_of_lt h1];omega
theorem Sl{b:List Nat}{m s:Nat}(hb:CA b)(hl:b.length=m+2)(h0:dg b (m+1)≠0)(hs:s=31-log2 (dg b (m+1))) :
  s<32/\val b*2^s<B^(m+2)/\2^31*B^(m+1)<=val b*2^s/\B^(m+1)*2^s<=val b*2^s:=by
 have hx:=C0 hb (m+1);have e:=Ce (l:=b) (k:=m+2) (by omega);rw[CK] at e;have hlow:=QM hb (m+1);generalize val (b.take (m+1))=lo at *;generalize dg b (m+1)=x at *;have h1:=Nat.log2_self_le h0;have h2:=@Nat.lt_log2_self x;have hL:log2 x<32:=(log2_lt h0).2 hx;have hLs:2^(log2 x)*2^s=2^31:=by rw[<-pow_add];congr 1;omega
 have hps:0<2^s:=two_pow_pos s;have hP:=Bp (m+1);rw[<-e];refine⟨by omega,?_,?_,?_⟩
 .have a1:(lo+B^(m+1)*x)<B^(m+1)*(x+1):=by rw[mul_add,mul_one];omega
  have a2:(lo+B^(m+1)*x)*2^s<B^(m+1)*(x+1)*2^s:=Nat.mul_lt_mul_of_pos_right a1 hps;have a3:(x+1)*2^s<=2^(log2 x+1)*2^s:=mul_le_mul_right _ h2;have a4:2^(log2 x+1)*2^s=B:=by rw[pow_succ,Nat.mul_right_comm,hLs]
  have a5:B^(m+1)*((x+1)*2^s)<=B^(m+1)*B:=mul_le_mul_left _ (by omega);rw[<-mul_assoc,<-pow_succ] at a5;exact lt_of_lt_of_le a2 a5
 .have a1:2^(log2 x)*2^s*B^(m+1)<=x*2^s*B^(m+1):=mul_le_mul_right _ (mul_le_mul_right _ h1);rw[hLs] at a1
  have a2:x*2^s*B^(m+1)<=(lo+B^(m+1)*x)*2^s:=by rw[add_mul,mul_comm (B^(m+1)) x,Nat.mul_right_comm];omega
  omega
 .apply mul_le_mul_right;have:B^(m+1)*1<=B^(m+1)*x:=mul_le_mul_left _ (by omega);omega
theorem DM.start{a b d u q:List Nat}{la m s:Nat}(ha:CA a)(hb:CA b)(yN:a.length=la)(hl:b.length=m+2)(hle:m+2<=la)(h0:dg b (m+1)≠0)(hs:s=31-log2 (dg b (m+1)))
  (hd:CA d) (ld:d.length=m+2) (vd:val d=val b*2^s) (hu:CA u) (lu:u.length=la+1) (vu:val u=val a*2^s) (lq:q=replicate (la-(m+2)+1) 0) :
  DM d u q (val a*2^s) la m (la-(m+2)+1):=by
 obtain⟨k1,k2,k3,k4⟩:=Sl hb hl h0 hs;subst lq;refine⟨ld,hd,?_,lu,hu,HI _,by simp;omega,by simp,?_,by rw[HH,vu];simp,fun j _=>JT _ _⟩
 .have e:=dg_val hd (m+1);rw[vd] at e
  have h1:val b*2^s/B^(m+1)<B:=by rw[div_lt_iff_lt_mul (Bp _),mul_comm B,<-pow_succ];exact k2
  rw[mod_eq_of_lt h1] at e;have h2:2^31<=val b*2^s/B^(m+1):=(le_div_iff_mul_le (Bp _)).2 k3;rw[<-e] at h2;simp only[B];omega
 .rw[Ov hu,vu,div_lt_iff_lt_mul (Bp _),vd];have h1:=CY ha;rw[yN] at h1;have h2:val a*2^s<B^la*2^s:=Nat.mul_lt_mul_of_pos_right h1 (two_pow_pos s);have h3:B^(m+1)*2^s*B^(la-(m+2)+1)<=val b*2^s*B^(la-(m+2)+1):=mul_le_mul_right _ k4
  have h4:B^(m+1)*2^s*B^(la-(m+2)+1)=B^la*2^s:=by rw[Nat.mul_right_comm,<-pow_add];congr 2;omega
  omega
end Go.Proofs.YtjniafcnjbbomaaGreatDoor.NL
namespace Go.Proofs.YtjniafcnjbbomaaGreatDoor.DE.V
open Go NL
abbrev Bd(n:Nat):Prop:=n<4611686018427387904
theorem Bd.lt{n m:Nat}(h:Bd n)(k:m<=n):Bd m:=lt_of_le_of_lt k h
theorem Bz{k:Nat}(h:Bd k):IntKind.wrap .i64 ((k:Int)+1)=((k+1:Nat):Int):=by rw[wrap64 ⟨by omega,by unfold Bd at h;omega⟩];omega
theorem Md{Z:Type}{l m:List Z}{k:Nat}{x:Z}(h:l.take k=m.take k)(hl:l[k]? = some x)(hm:m[k]? = some x):l.take (k+1)=m.take (k+1):=by rw[take_add_one,take_add_one,h,hl,hm]
theorem Mc{Z:Type}{l m:List Z}{k:Nat}(h:l.take k=m.take k)(hl:l.length<=k)(hm:m.length<=k):l=m:=by
 rwa [take_of_length_le hl,take_of_length_le hm] at h
theorem BV{Z:Type}{l:List Z}{k:Nat}{x:Z}(hx:l[k]? = some x):l.take (k+1)=l.take k++[x]:=by rw[take_add_one,hx];rfl
theorem Mh{n:Int}(h0:0<=n)(h:n<4294967296):IntKind.wrap .u32 n=n:=by
 have e:n%4294967296=n:=by omega
 simp[IntKind.wrap,IntKind.signed,IntKind.bits,e]
theorem LQ{n:Int}(h0:0<=n)(h:n<18446744073709551616):IntKind.wrap .u64 n=n:=by
 have e:n%18446744073709551616=n:=by omega
 simp[IntKind.wrap,IntKind.signed,IntKind.bits,e]
theorem Zu(n:Nat):IntKind.wrap .u32 n=((n%B:Nat):Int):=by simp[IntKind.wrap,IntKind.signed,IntKind.bits,B]
theorem QO{n:Nat}(h:n<9223372036854775808):IntKind.wrap .i64 n=n:=wrap64 ⟨by omega,by omega⟩
theorem Nw(k k':IntKind)(n:Int):BA k (.i k' n)=some (.i k (k.wrap n)):=(rfl)
theorem O4{k:IntKind}{n:Nat}(h:n<B):BA .u32 (.i k n)=some (.i .u32 n):=by rw[Nw,Mh (by omega) (by simp only[B] at h;omega)]
theorem Kz{k:IntKind}(n:Nat):BA .u32 (.i k n)=some (.i .u32 ((n%B:Nat):Int)):=by rw[Nw,Zu]
theorem conv64{k:IntKind}{n:Nat}(h:n<18446744073709551616):BA .u64 (.i k n)=some (.i .u64 n):=by rw[Nw,LQ (by omega) (by omega)]
theorem CJ{k:IntKind}{n:Nat}(h:n<B):BA .u64 (.i k n)=some (.i .u64 n):=conv64 (by simp only[B] at h;omega)
theorem VE{a b:Nat}(h:a+b<18446744073709551616):A4 .add .num (.i .u64 a) (.i .u64 b)=some (.i .u64 ((a+b:Nat):Int)):=by rw[EB,<-natCast_add,LQ (by omega) (by omega)]
theorem sub64{a b:Nat}(h:b<=a)(ha:a<18446744073709551616):A4 .sub .num (.i .u64 a) (.i .u64 b)=some (.i .u64 ((a-b:Nat):Int)):=by rw[Cp,LQ (by omega) (by omega)];congr 2;omega
theorem pj{a b:Nat}(h:a*b<18446744073709551616):A4 .mul .num (.i .u64 a) (.i .u64 b)=some (.i .u64 ((a*b:Nat):Int)):=by simp only[A4,EI,if_true];rw[<-Int.natCast_mul,LQ (by omega) (by omega)]
theorem quo64{a b:Nat}(h:0<b)(ha:a<18446744073709551616):A4 .quo .num (.i .u64 a) (.i .u64 b)=some (.i .u64 ((a/b:Nat):Int)):=by have:a/b<=a:=div_le_self _ _;simp only[A4,EI,if_true];have e:(a:Int).tdiv b=((a/b:Nat):Int):=(Int.ofNat_tdiv a b).symm;rw[if_neg (by omega),e];generalize a/b=c at *;rw[LQ (by omega) (by omega)]
theorem rem64{a b:Nat}(h:0<b):A4 .rem .num (.i .u64 a) (.i .u64 b)=some (.i .u64 ((a%b:Nat):Int)):=by simp only[A4,EI,if_true];have e:(a:Int).tmod b=((a%b:Nat):Int):=(Int.ofNat_tmod a b).symm;rw[if_neg (by omega),e]
theorem LC{k k':IntKind}{v s:Nat}(hs:s<=k.bits):A4 .shr .num (.i k v) (.i k' s)=some (.i k ((v/2^s:Nat):Int)):=by
 have hm:min s k.bits=s:=by omega
 simp only[A4,o0];rw[if_neg (by omega)];simp only[Int.toNat_natCast,hm]
 have e:(v:Int).fdiv (2^s)=((v/2^s:Nat):Int):=by rw[show((2:Int)^s)=((2^s:Nat):Int) by simp,<-Int.ofNat_fdiv]
 rw[e]
theorem Zy(v:Nat):A4 .shr .num (.i .u64 v) (.i .u64 32)=some (.i .u64 ((v/B:Nat):Int)):=LC (k:=.u64) (k':=.u64) (v:=v) (s:=32) (by decide)
theorem jM{k':IntKind}{v s:Nat}(hs:s<=64)(h:v*2^s<18446744073709551616):A4 .shl .num (.i .u64 v) (.i k' s)=some (.i .u64 ((v*2^s:Nat):Int)):=by
 have hm:min s 64=s:=by omega
 simp only[A4,o0];rw[if_neg (by omega)];simp only[IntKind.bits,Int.toNat_natCast,hm];have e:(v:Int)*(2:Int)^s=((v*2^s:Nat):Int):=by simp
 rw[e];generalize v*2^s=m at *;rw[LQ (by omega) (by omega)]
theorem jt{v:Nat}(h:v<B):A4 .shl .num (.i .u64 v) (.i .u64 32)=some (.i .u64 ((v*B:Nat):Int)):=jM (k':=.u64) (v:=v) (s:=32) (by decide) (by simp only[B] at h;omega)
theorem or32{x y:Nat}(hx:x<B)(hy:y<B):A4 .or .num (.i .u32 x) (.i .u32 y)=some (.i .u32 ((x |||y:Nat):Int)):=by
 have ho:x |||y<2^32:=Nat.or_lt_two_pow hx hy
 have e:((BitVec.ofInt 32 (x:Int) |||BitVec.ofInt 32 (y:Int)).toNat:Int)=((x |||y:Nat):Int):=by simp only[BitVec.ofInt_natCast,BitVec.toNat_or,BitVec.toNat_ofNat];rw[mod_eq_of_lt (show x<2^32 from hx),mod_eq_of_lt (show y<2^32 from hy)]
 simp only[A4,EI,if_true];exact congrArg (fun z=>some (D.i .u32 z)) ((congrArg (IntKind.wrap .u32) e).trans (Mh (by omega) (by omega)))
theorem or64{x y:Nat}(hx:x<18446744073709551616)(hy:y<18446744073709551616):A4 .or .num (.i .u64 x) (.i .u64 y)=some (.i .u64 ((x |||y:Nat):Int)):=by
 have ho:x |||y<2^64:=Nat.or_lt_two_pow (show x<2^64 from hx) (show y<2^64 from hy)
 have e:((BitVec.ofInt 64 (x:Int) |||BitVec.ofInt 64 (y:Int)).toNat:Int)=((x |||y:Nat):Int):=by simp only[BitVec.ofInt_natCast,BitVec.toNat_or,BitVec.toNat_ofNat];rw[mod_eq_of_lt (show x<2^64 from hx),mod_eq_of_lt (show y<2^64 from hy)]
 simp only[A4,EI,if_true];exact congrArg (fun z=>some (D.i .u64 z)) ((congrArg (IntKind.wrap .u64) e).trans (LQ (by omega) (by omega)))
theorem orB{x y:Nat}(hx:x<B)(hy:y<B):A4 .or .num (.i .u64 ((x*B:Nat):Int)) (.i .u64 y)=some (.i .u64 ((x*B+y:Nat):Int)):=by
 have hxB:x*B<18446744073709551616:=by simp only[B] at hx ⊢;omega
 rw[or64 hxB (by simp only[B] at hy;omega),Nat.or_comm];have:=bh (x:=y) (y:=x) (s:=32) hy;rw[gH,this,Nat.add_comm]
def AD(nl:Bool)(l:List Nat)(o:JB):D:=.sl 1 nl (List.map (fun n:Nat=>[D.i .u32 (n:Int)]) l) o
@[simp] theorem noRef_lims(nl:Bool)(l:List Nat):AG (AD nl l .ro)=true:=by simp only[AD,AG,Bool.true_and];exact Hb (fun n:Nat=>[D.i .u32 (n:Int)]) (fun _=>rfl) l
@[simp] theorem Bh(nl:Bool)(l:List Nat)(o:JB):strip (AD nl l o)=AD nl l .ro:=(rfl)
@[simp] theorem stripT_lims(nl:Bool)(l:List Nat)(o:JB):Ae (AD nl l o)=AD nl l .ro:=(rfl)
@[simp] theorem isCell_lims(nl:Bool)(l:List Nat)(o:JB):BF (AD nl l o)=true:=(rfl)
@[simp] theorem cellsK_lims(m:Nat)(nl:Bool)(l:List Nat)(o:JB):Am m false (AD nl l o)=some [AD nl l o]:=(rfl)
@[simp] theorem B2(nl:Bool)(l:List Nat)(o:JB):AK false (AD nl l o)=some (.i .i64 l.length):=by simp[AD,AK]
theorem Bt{nl:Bool}{l:List Nat}{o:JB}{k:IntKind}{i:Nat}(h:i<l.length):Ak 1 (AD nl l o) (.i k i)=some (.el [.i .u32 (dg l i:Nat)] 0):=by simp[AD,Ak,dg,h]
@[simp] theorem TW{nl:Bool}{l:List Nat}{o:JB}{k:IntKind}{n:Nat}(h:n<=l.length):GG 1 (AD nl l o) none (some (.i k n))=some (AD nl (l.take n) .ro):=by
 have h':(n:Int)<=(l.length:Int):=by omega
 simp[GG,bounds,AD,h']
def AL(l:List Nat):List D:=l.map fun n:Nat=>D.i .u32 (n:Int)
@[simp] theorem lj(l:List Nat):(AL l).length=l.length:=by simp[AL]
theorem o7{l:List Nat}{i:Nat}(h:i<l.length):(AL l)[i]? = some (.i .u32 (dg l i:Nat)):=by simp[AL,dg,h]
theorem Ue:∀(l:List Nat) (i x:Nat),Bc (AL l) i (.i .u32 x)=AL (l.set i x)
 |[],_,_=>rfl
 |_::_,0,_=>rfl
 |y::l,i+1,x=>by simpa[AL,Bc] using Ue l i x
theorem Gq{S:A1}{id:Nat}{l:List Nat}{i:Nat}(hS:AA S id=some (.box (AL l)))(h:i<l.length):AE S 1 false (.bx id i)=some (.i .u32 (dg l i:Nat)):=by simp[hS,o7 h]
theorem Ct{S:A1}{id:Nat}{l:List Nat}{i x:Nat}(hS:AA S id=some (.box (AL l)))(h:i<l.length):Ax S 1 false (.bx id i) (.i .u32 x)=some (sset S id (.box (AL (l.set i x)))):=by have:i+1<=l.length:=h;simp[hS,this,Ue]
theorem H0{id o n:Nat}{k:IntKind}{i:Nat}(h:i<n):Ak 1 (.ar 1 id o n) (.i k i)=some (.bx id (o+i)):=by
 have:(i:Int)<n:=by omega
 simp[Ak,this]
@[simp] theorem dA(k id o n:Nat):AK false (.ar k id o n)=some (.i .i64 n):=(rfl)
theorem GQ{S:A1}{n:Nat}(h:n<=AP):Lv 1 true [.i .u32 0] S (.i .i64 n)=some (.ar 1 S.length 0 n,.box (AL (replicate n 0))::S):=by
 have h1:(n:Int)<=AP:=by omega
 simp[Lv,h1,AL]
theorem Of:∀(l:List Nat),chunks 1 l.length (AL l)=l.map fun n:Nat=>[D.i .u32 (n:Int)]
 |[]=>rfl
 |x::l=>by simp[chunks,AL];exact Of l
theorem Jw{S:A1}{id:Nat}{l:List Nat}(hS:AA S id=some (.box (AL l))):Lr (.ar 1 id 0 l.length) S=some (AD false l .ro,sset S id .gone):=by simp only[Lr,hS,zero_add,mul_one,lj,le_refl,if_true,drop_zero,Of,AD]
end Go.Proofs.YtjniafcnjbbomaaGreatDoor.DE.V
namespace Go.Proofs.YtjniafcnjbbomaaGreatDoor.DE
section
open Go
variable (cf:AQ)(a0 a2 a3 a15:D)(S:A1)(Q:QT)(Post:PT)
def s142:Pq:=fun cf a0 a1 a2 S Post=>OX (BA .u64 a0) fun x1=>OX (BA .u64 a1) fun x2=>OX (A4 .add .num x1 x2) fun x3=>OX (BA .u64 a2) fun x4=>OX (A4 .add .num x3 x4) fun x5=>OX (BA .u32 x5) fun x6=>OX (A4 .shr .num x5 (.i .u64 32)) fun x7=>OX (BA .u32 x7) fun x8=>Post (.AY [x6,x8]) S
def i142:I3 142 s142:=mI3 d142
def s243:Pq:=fun cf a0 a1 a2 S Post=>OX (A4 .sub .num a0 a1) fun x1=>OX (A4 .sub .num x1 a2) fun x2=>OX (ES .xor a0) fun x3=>OX (A4 .and .num x3 a1) fun x4=>OX (A4 .xor .num a0 a1) fun x5=>OX (ES .xor x5) fun x6=>OX (A4 .and .num x6 x2) fun x7=>OX (A4 .or .num x4 x7) fun x8=>OX (A4 .shr .num x8 (.i .u64 31)) fun x9=>Post (.AY [x2,x9]) S
def i243:I3 243 s243:=mI3 d243
def s268:EV:=fun cf a0 S Post=>OX (A4 .geq .num a0 (.i .u32 65536)) fun x1=>jn (fun(y3 y4 y5:D) (S6:A1)=>OX (A4 .geq .num y3 (.i .u32 256)) fun x7=>jn (fun(y9 y10 y11:D) (S12:A1)=>OX (BA .u8 y9) fun x13=>OX (Yf (.s [0,1,2,2,3,3,3,3,4,4,4,4,4,4,4,4,5,5,5,5,5,5,5,5,5,5,5,5,5,5,5,5,6,6,6,6,6,6,6,6,6,6,6,6,6,6,6,6,6,6,6,6,6,6,6,6,6,6,6,6,6,6,6,6,7,7,7,7,7,7,7,7,7,7,7,7,7,7,7,7,7,7,7,7,7,7,7,7,7,7,7,7,7,7,7,7,7,7,7,7,7,7,7,7,7,7,7,7,7,7,7,7,7,7,7,7,7,7,7,7,7,7,7,7,7,7,7,7,8,8,8,8,8,8,8,8,8,8,8,8,8,8,8,8,8,8,8,8,8,8,8,8,8,8,8,8,8,8,8,8,8,8,8,8,8,8,8,8,8,8,8,8,8,8,8,8,8,8,8,8,8,8,8,8,8,8,8,8,8,8,8,8,8,8,8,8,8,8,8,8,8,8,8,8,8,8,8,8,8,8,8,8,8,8,8,8,8,8,8,8,8,8,8,8,8,8,8,8,8,8,8,8,8,8,8,8,8,8,8,8,8,8,8,8,8,8,8,8,8,8,8,8,8,8,8,8]) x13) fun x14=>OX (BA .i64 x14) fun x15=>OX (A4 .add .num y10 x15) fun x16=>Post x16 S12) fun k8=>WB x7
 (OX (A4 .shr .num y3 (.i .u64 8)) fun x17=>OX (A4 .add .num y4 (.n 8)) fun x18=>k8 x17 x18 D.top S6)
 (k8 y3 y4 x7 S6)) fun k2=>WB x1
 (OX (A4 .shr .num a0 (.i .u64 16)) fun x19=>k2 x19 (.n 16) D.top S)
 (k2 a0 (.n 0) x1 S)
def i268:I1 268 s268:=JF d268
def s212:EV:=fun cf a0 S Post=>OX (A0 cf 268 [a0]) fun x1=>OX (A4 .sub .num (.n 32) x1) fun x2=>Post x2 S
def i212:I1 212 s212:=JF d212
abbrev lv(a0 a2 a3 a15:D):List D:=B0 21 [(0,a0),(2,a2),(3,a3),(15,a15)]
def Wk:TQ4:=fun cf a0 a2 a3 a15 S Q=>OX (GG 1 a0 none (some a3)) fun x1=>Q .ret (lv .top x1 .top .top) S
theorem iK:wp cf X8 (lv a0 a2 a3 a15) S Q=Wk cf a0 a2 a3 a15 S Q:=B4 (by kernel_rfl)
def Vu:TQ4:=fun cf a0 a2 a3 a15 S Q=>OX (A4 .gtr .num a3 (.n 0)) fun x2=>OX (A8 x2 true (some a0)) fun x3=>OX (A8 x2 true (some a3)) fun x4=>OX (A8 x2 true (A4 .sub .num x4 (.n 1))) fun x5=>OX (A8 x2 true (Ak 1 x3 x5)) fun x6=>OX (A8 x2 true (AE S 1 false x6)) fun x7=>OX (A8 x2 true (A4 .eql .num x7 (.i .u32 0))) fun x8=>OX (AU x2 x8 (.b false)) fun x9=>WB x9
 (OX (A4 .sub .num a3 (.n 1)) fun x10=>Q .normal (lv a0 a2 x10 .top) S)
 (Q (.exit 0) (lv a0 a2 a3 x9) S)
theorem e146_0:wp cf eF (B7 (lv a0 a2 a3 a15) []) S Q=Vu cf a0 a2 a3 a15 S Q:=B4 (by kernel_rfl)
def s146:EV:=fun cf a0 S Post=>OX (AK false a0) fun x11=>W cf (.loop [] eF) (lv a0 .top x11 .top) S (Af 0 (QS cf X8 (Aw [.t 2] Post)))
def i146:I1 146 s146:=JF d146
def s105:EV:=fun cf a0 S Post=>OX (AK false a0) fun x1=>OX (A4 .leq .num x1 (.n 128)) fun x2=>OX (A8 x2 true (some a0)) fun x3=>OX (A8 x2 true (AK false x3)) fun x4=>OX (A8 x2 true (A4 .eql .num x4 (.n 0))) fun x5=>OX (A8 x2 true (some x5)) fun x6=>OX (A8 x6 false (some a0)) fun x7=>OX (A8 x6 false (some a0)) fun x8=>OX (A8 x6 false (AK false x8)) fun x9=>OX (A8 x6 false (A4 .sub .num x9 (.n 1))) fun x10=>OX (A8 x6 false (Ak 1 x7 x10)) fun x11=>OX (A8 x6 false (AE S 1 false x11)) fun x12=>OX (A8 x6 false (A4 .neq .num x12 (.i .u32 0))) fun x13=>OX (A8 x2 true (AU x6 (.b true) x13)) fun x14=>OX (AU x2 x14 (.b false)) fun x15=>Post x15 S
def i105:I1 105 s105:=JF d105
def s143:EV:=fun cf a0 S Post=>OX (A0 cf 105 [a0]) fun x1=>OX (ES .not x1) fun x2=>WB x2
 (Post (.z 1) S)
 (Post a0 S)
def i143:I1 143 s143:=JF d143
def s134:EV:=fun cf a0 S Post=>OX (A0 cf 146 [a0]) fun x1=>OX (AK false x1) fun x2=>OX (A4 .gtr .num x2 (.n 128)) fun x3=>WB x3
 (Post (.AY [(.z 1),(.n 6)]) S)
 (Post (.AY [x1,(.n 0)]) S)
def i134:I1 134 s134:=JF d134
def s83:EV:=fun cf a0 S Post=>OX (BA .u32 a0) fun x1=>OX (A4 .shr .num a0 (.i .u64 32)) fun x2=>OX (BA .u32 x2) fun x3=>OX (AV 1 false [x1,x3]) fun x4=>OX (A0 cf 146 [(.sl 1 false x4 .ro)]) fun x5=>Post x5 S
def i83:I1 83 s83:=JF d83
def s141:EV:=fun cf a0 S Post=>Cg 1 false a0 S fun x1 S2=>Post (.fn 221 [x1]) S2
def f141:F1 141 s141:=mF1 d141
def s221:Cn:=fun cf a0 a1 S Post=>OX (AE S 1 false a1) fun x1=>OX (AK false x1) fun x2=>OX (A4 .geq .num a0 x2) fun x3=>WB x3
 (Post (.i .u32 0) S)
 (OX (AE S 1 false a1) fun x4=>OX (Ak 1 x4 a0) fun x5=>OX (AE S 1 false x5) fun x6=>Post x6 S)
def f221:F2 221 s221:=eR d221
def pZ:EV:=fun cf a0 S Post=>OX (A4 .neq .num a0 a0) fun x1=>Post x1 S
def e222:E1 d222 pZ:=Uf
def i222:I1 222 pZ:=JF d222 (e:=e222)
def s223:EV:=fun cf a0 S Post=>OX (A4 .neq .num a0 a0) fun x1=>Post x1 S
def i223:I1 223 s223:=JF d223
def rX:Cn:=fun cf a0 a1 S Post=>OX (A0 cf 222 [a0]) fun x1=>OX (A0 cf 222 [a1]) fun x2=>WB x1
 (WB x2
 (Post (.n 0) S)
 (Post (.n (-1)) S))
 (WB x2
 (Post (.n 1) S)
 (OX (A4 .lss .num a0 a1) fun x3=>WB x3
 (Post (.n (-1)) S)
 (OX (A4 .gtr .num a0 a1) fun x4=>WB x4
 (Post (.n 1) S)
 (Post (.n 0) S))))
def e144:E2 d144 rX:=PL
def i144:I2 144 rX:=Oc d144 (e:=e144)
def s145:Cn:=fun cf a0 a1 S Post=>OX (A0 cf 223 [a0]) fun x1=>OX (A0 cf 223 [a1]) fun x2=>WB x1
 (WB x2
 (Post (.n 0) S)
 (Post (.n (-1)) S))
 (WB x2
 (Post (.n 1) S)
 (OX (A4 .lss .num a0 a1) fun x3=>WB x3
 (Post (.n (-1)) S)
 (OX (A4 .gtr .num a0 a1) fun x4=>WB x4
 (Post (.n 1) S)
 (Post (.n 0) S))))
def i145:I2 145 s145:=Oc d145
abbrev m82(a0 a1 a4 a5 a24:D):List D:=B0 45 [(0,a0),(1,a1),(4,a4),(5,a5),(24,a24)]
def vH:V7:=fun cf a0 a1 a4 a5 a24 S Q=>Q .ret (m82 .top .top (.n 0) .top .top) S
def e82_r0:N5 aq m82 vH:=kN5
def kF:V7:=fun cf a0 a1 a4 a5 a24 S Q=>OX (A4 .geq .num a5 (.n 0)) fun x1=>WB x1
 (OX (Ak 1 a0 a5) fun x2=>OX (AE S 1 false x2) fun x3=>OX (Ak 1 a1 a5) fun x4=>OX (AE S 1 false x4) fun x5=>OX (A4 .neq .num x3 x5) fun x6=>WB x6
 (OX (Ak 1 a0 a5) fun x7=>OX (AE S 1 false x7) fun x8=>OX (Ak 1 a1 a5) fun x9=>OX (AE S 1 false x9) fun x10=>OX (A0 cf 145 [x8,x10]) fun x11=>Q .ret (m82 .top .top x11 .top .top) S)
 (OX (A4 .sub .num a5 (.n 1)) fun x12=>Q .normal (m82 a0 a1 a4 x12 .top) S))
 (Q (.exit 0) (m82 a0 a1 a4 a5 x1) S)
def e82_0:L5 uv m82 kF:=kL5
def s82:Cn:=fun cf a0 a1 S Post=>OX (A0 cf 143 [a0]) fun x13=>OX (A0 cf 143 [a1]) fun x14=>OX (AK false x13) fun x15=>OX (AK false x14) fun x16=>OX (A4 .neq .num x15 x16) fun x17=>WB x17
 (OX (AK false x13) fun x18=>OX (AK false x14) fun x19=>OX (A0 cf 144 [x18,x19]) fun x20=>Post x20 S)
 (OX (AK false x13) fun x21=>OX (A4 .sub .num x21 (.n 1)) fun x22=>W cf (.loop [] uv) (m82 x13 x14 .top x22 .top) S (Af 0 (QS cf aq (Aw [.t 4] Post))))
def i82:I2 82 s82:=Oc d82
end
end Go.Proofs.YtjniafcnjbbomaaGreatDoor.DE
namespace Go.Proofs.YtjniafcnjbbomaaGreatDoor.DE.V
open Go NL
theorem v142{x y c:Nat}(hx:x<B)(hy:y<B)(hc:c<=1):A0 (call dp) 142 [.i .u32 x,.i .u32 y,.i .u32 c]=some (.AY [.i .u32 (((x+y+c)%B:Nat):Int),.i .u32 (((x+y+c)/B:Nat):Int)]):=by
 have hB:B=4294967296:=rfl;apply i142 _ _ _ _ (by simp[A9]) (by simp[AG,A9]);have h1:=VE (a:=x) (b:=y) (by omega);have h2:=VE (a:=x+y) (b:=c) (by omega);have hd:(x+y+c)/B<B:=by simp only[B] at *;omega
 simp only[s142,Cq,CJ hx,CJ hy,CJ (show c<B by omega),h1,h2,Kz,Zy,mod_eq_of_lt hd,A5,dX,YZ,bW]
theorem bv_top(v:BitVec 32):((v.toNat:Int)).fdiv (2^31)=if v.msb then 1 else 0:=by
 have e:((v.toNat:Int)).fdiv (2^31)=((v.toNat/2^31:Nat):Int):=by rw[show((2:Int)^31)=((2^31:Nat):Int) by rfl,<-Int.ofNat_fdiv]
 rw[e];have h:=v.isLt;rw[BitVec.msb_eq_decide];by_cases hm:2^31<=v.toNat
 .have:v.toNat/2^31=1:=by omega
  simp[this,hm]
 .have:v.toNat/2^31=0:=by omega
  simp[this,hm]
def HW(x y b:Nat):Nat:=(x+2*B-y-b)%B
def Qs(x y b:Nat):Nat:=if x<y+b then 1 else 0
theorem RY{x y b:Nat}(hx:x<B)(hy:y<B)(hb:b<=1):HW x y b+y+b=x+B*Qs x y b:=by have hB:B=4294967296:=rfl;unfold HW Qs;simp only[B] at *;split<;>omega
theorem Me(x y b:Nat):HW x y b<B:=mod_lt _ CU
theorem Xh(x y b:Nat):Qs x y b<=1:=by unfold Qs;split<;>omega
theorem vA{x y b:Nat}(hx:x<B)(hy:y<B)(hb:b<=1):IntKind.wrap .u32 (IntKind.wrap .u32 ((x:Int)-y)-b)=HW x y b:=by have hB:B=4294967296:=rfl;simp only[IntKind.wrap,IntKind.signed,IntKind.bits,HW];simp;omega
theorem qg(x:Nat)(_:x<B):ES .xor (.i .u32 x)=some (.i .u32 (~~~ (BitVec.ofNat 32 x)).toNat):=by
 have h:=(~~~ (BitVec.ofNat 32 x)).isLt
 have e:BitVec.ofInt 32 (IntKind.max .u32) ^^^ BitVec.ofInt 32 (x:Int) = ~~~ (BitVec.ofNat 32 x):=by
  rw[BitVec.ofInt_natCast];have:BitVec.ofInt 32 (IntKind.max .u32)=BitVec.allOnes 32:=by decide
  rw[this,BitVec.allOnes_xor]
 simp only[ES,IntKind.signed,false_eq_true,if_false,EI];have e2:=congrArg (fun v:BitVec 32=>(v.toNat:Int)) e;exact congrArg (fun z=>some (D.i .u32 z)) ((congrArg (IntKind.wrap .u32) e2).trans (Mh (by omega) (by omega)))
theorem Y4{op:BinOp}(v w:BitVec 32):(op=.and->A4 op .num (.i .u32 v.toNat) (.i .u32 w.toNat)=some (.i .u32 (v &&& w).toNat))/\(op=.or->A4 op .num (.i .u32 v.toNat) (.i .u32 w.toNat)=some (.i .u32 (v |||w).toNat)) /\
  (op=.xor->A4 op .num (.i .u32 v.toNat) (.i .u32 w.toNat)=some (.i .u32 (v ^^^ w).toNat)):=by
 have hv:BitVec.ofInt 32 (v.toNat:Int)=v:=by simp
 have hw:BitVec.ofInt 32 (w.toNat:Int)=w:=by simp
 refine⟨?_,?_,?_⟩
 .rintro rfl;have h:=(v &&& w).isLt;simp only[A4,EI,if_true];have e2:=congrArg (fun v:BitVec 32=>(v.toNat:Int)) (show BitVec.ofInt 32 (v.toNat:Int) &&& BitVec.ofInt 32 (w.toNat:Int)=v &&& w by rw[hv,hw]);exact congrArg (fun z=>some (D.i .u32 z)) ((congrArg (IntKind.wrap .u32) e2).trans (Mh (by omega) (by omega)))
 .rintro rfl;have h:=(v |||w).isLt;simp only[A4,EI,if_true];have e2:=congrArg (fun v:BitVec 32=>(v.toNat:Int)) (show BitVec.ofInt 32 (v.toNat:Int) |||BitVec.ofInt 32 (w.toNat:Int)=v |||w by rw[hv,hw]);exact congrArg (fun z=>some (D.i .u32 z)) ((congrArg (IntKind.wrap .u32) e2).trans (Mh (by omega) (by omega)))
 .rintro rfl;have h:=(v ^^^ w).isLt;simp only[A4,EI,if_true];have e2:=congrArg (fun v:BitVec 32=>(v.toNat:Int)) (show BitVec.ofInt 32 (v.toNat:Int) ^^^ BitVec.ofInt 32 (w.toNat:Int)=v ^^^ w by rw[hv,hw]);exact congrArg (fun z=>some (D.i .u32 z)) ((congrArg (IntKind.wrap .u32) e2).trans (Mh (by omega) (by omega)))
theorem tS{x y b:Nat}(hx:x<B)(hy:y<B)(hb:b<=1) :
  (((~~~ (BitVec.ofNat 32 x)) &&& BitVec.ofNat 32 y) |||((~~~ (BitVec.ofNat 32 x ^^^ BitVec.ofNat 32 y)) &&& BitVec.ofNat 32 (HW x y b))).msb=decide (x<y+b):=by
 have hB:B=4294967296:=rfl
 have m:∀z,z<B->(BitVec.ofNat 32 z).msb=decide (2147483648<=z):=by intro z hz;rw[BitVec.msb_eq_decide,BitVec.toNat_ofNat,mod_eq_of_lt (show z<2^32 from hz)]
 rw[BitVec.msb_or,BitVec.msb_and,BitVec.msb_and,BitVec.msb_not,BitVec.msb_not,BitVec.msb_xor,m x hx,m y hy,m _ (Me x y b)];simp only[show(0<32)=True by simp,decide_true,Bool.true_and];have hd:=RY hx hy hb;have aZ:=Me x y b;generalize HW x y b=d at *;by_cases c:x<y+b
 .have:Qs x y b=1:=if_pos c;rw[this] at hd;by_cases c1:2147483648<=x<;>by_cases c2:2147483648<=y<;>by_cases c3:2147483648<=d<;>simp[c,c1,c2,c3]<;>omega
 .have:Qs x y b=0:=if_neg c;rw[this] at hd;by_cases c1:2147483648<=x<;>by_cases c2:2147483648<=y<;>by_cases c3:2147483648<=d<;>simp[c,c1,c2,c3]<;>omega
theorem v243{x y b:Nat}(hx:x<B)(hy:y<B)(hb:b<=1):A0 (call dp) 243 [.i .u32 x,.i .u32 y,.i .u32 b]=some (.AY [.i .u32 (HW x y b:Nat),.i .u32 (Qs x y b:Nat)]):=by
 have hB:B=4294967296:=rfl;apply i243 _ _ _ _ (by simp[A9]) (by simp[AG,A9]);have ex:D.i .u32 (x:Int)=.i .u32 ((BitVec.ofNat 32 x).toNat:Int):=by rw[BitVec.toNat_ofNat,mod_eq_of_lt (show x<2^32 from hx)]
 have ey:D.i .u32 (y:Int)=.i .u32 ((BitVec.ofNat 32 y).toNat:Int):=by rw[BitVec.toNat_ofNat,mod_eq_of_lt (show y<2^32 from hy)]
 have ed:D.i .u32 (HW x y b:Int)=.i .u32 ((BitVec.ofNat 32 (HW x y b)).toNat:Int):=by rw[BitVec.toNat_ofNat,mod_eq_of_lt (show HW x y b<2^32 from Me x y b)]
 have h1:A4 .sub .num (.i .u32 x) (.i .u32 y)=some (.i .u32 (IntKind.wrap .u32 ((x:Int)-y))):=Cp _ _ _;have h2:A4 .sub .num (.i .u32 (IntKind.wrap .u32 ((x:Int)-y))) (.i .u32 b)=some (.i .u32 (HW x y b:Nat)):=by rw[Cp,vA hx hy hb]
 have h3:=qg x hx;have h4:=(Y4 (op:=.and) (~~~ (BitVec.ofNat 32 x)) (BitVec.ofNat 32 y)).1 rfl;rw[<-ey] at h4;have h5:=(Y4 (op:=.xor) (BitVec.ofNat 32 x) (BitVec.ofNat 32 y)).2.2 rfl;rw[<-ex,<-ey] at h5;have h6:=qg (BitVec.ofNat 32 x ^^^ BitVec.ofNat 32 y).toNat (BitVec.isLt _);rw[BitVec.ofNat_toNat,BitVec.setWidth_eq] at h6;have h7:=(Y4 (op:=.and) (~~~ (BitVec.ofNat 32 x ^^^ BitVec.ofNat 32 y)) (BitVec.ofNat 32 (HW x y b))).1 rfl;rw[<-ed] at h7;have h8:=(Y4 (op:=.or) (~~~ (BitVec.ofNat 32 x) &&& BitVec.ofNat 32 y) (~~~ (BitVec.ofNat 32 x ^^^ BitVec.ofNat 32 y) &&& BitVec.ofNat 32 (HW x y b))).2.1 rfl;have h9:=LC (k:=.u32) (k':=.u64) (v:=(~~~ (BitVec.ofNat 32 x) &&& BitVec.ofNat 32 y ||| ~~~ (BitVec.ofNat 32 x ^^^ BitVec.ofNat 32 y) &&& BitVec.ofNat 32 (HW x y b)).toNat) (s:=31) (by decide);have ht:=bv_top (~~~ (BitVec.ofNat 32 x) &&& BitVec.ofNat 32 y ||| ~~~ (BitVec.ofNat 32 x ^^^ BitVec.ofNat 32 y) &&& BitVec.ofNat 32 (HW x y b));rw[tS hx hy hb] at ht
 have e9:((~~~ (BitVec.ofNat 32 x) &&& BitVec.ofNat 32 y ||| ~~~ (BitVec.ofNat 32 x ^^^ BitVec.ofNat 32 y) &&& BitVec.ofNat 32 (HW x y b)).toNat/2^31:Nat)=Qs x y b:=by
  have e:(((~~~ (BitVec.ofNat 32 x) &&& BitVec.ofNat 32 y ||| ~~~ (BitVec.ofNat 32 x ^^^ BitVec.ofNat 32 y) &&& BitVec.ofNat 32 (HW x y b)).toNat:Int)).fdiv (2^31)=(((~~~ (BitVec.ofNat 32 x) &&& BitVec.ofNat 32 y ||| ~~~ (BitVec.ofNat 32 x ^^^ BitVec.ofNat 32 y) &&& BitVec.ofNat 32 (HW x y b)).toNat/2^31:Nat):Int):=by rw[show((2:Int)^31)=((2^31:Nat):Int) by rfl,<-Int.ofNat_fdiv]
  rw[e] at ht;unfold Qs;by_cases c:x<y+b
  .rw[if_pos (by simpa using c)] at ht;rw[if_pos c];omega
  .rw[if_neg (by simpa using c)] at ht;rw[if_neg c];omega
 rw[e9] at h9;simp only[s243,Cq,h1,h2,h3,h4,h5,h6,h7,h8,A5];rw[show(31:Int)=((31:Nat):Int) from rfl,h9];simp
def KC(x:Nat):Nat:=if x=0 then 0 else log2 x+1
theorem len8:∀x,x<256->([0,1,2,2,3,3,3,3,4,4,4,4,4,4,4,4,5,5,5,5,5,5,5,5,5,5,5,5,5,5,5,5,6,6,6,6,6,6,6,6,6,6,6,6,6,6,6,6,6,6,6,6,6,6,6,6,6,6,6,6,6,6,6,6,7,7,7,7,7,7,7,7,7,7,7,7,7,7,7,7,7,7,7,7,7,7,7,7,7,7,7,7,7,7,7,7,7,7,7,7,7,7,7,7,7,7,7,7,7,7,7,7,7,7,7,7,7,7,7,7,7,7,7,7,7,7,7,7,8,8,8,8,8,8,8,8,8,8,8,8,8,8,8,8,8,8,8,8,8,8,8,8,8,8,8,8,8,8,8,8,8,8,8,8,8,8,8,8,8,8,8,8,8,8,8,8,8,8,8,8,8,8,8,8,8,8,8,8,8,8,8,8,8,8,8,8,8,8,8,8,8,8,8,8,8,8,8,8,8,8,8,8,8,8,8,8,8,8,8,8,8,8,8,8,8,8,8,8,8,8,8,8,8,8,8,8,8,8,8,8,8,8,8,8,8,8,8,8,8,8,8,8,8,8,8,8]:List UInt8)[x]? = some (UInt8.ofNat (KC x)):=by decide +kernel
theorem cr{x s:Nat}(h:2^s<=x):log2 x=log2 (x/2^s)+s:=by
 induction s generalizing x with
 |zero=>simp
 |succ s ih=>
  have h2:2<=x:=by have:2^(s+1)=2^s*2:=pow_succ ..;have:=two_pow_pos s;omega
  rw[Nat.log2_def,if_pos h2,ih (x:=x/2) (by rw[le_div_iff_mul_le (by decide),<-pow_succ];exact h),Nat.div_div_eq_div_mul,Nat.pow_succ',mul_comm 2];omega
theorem O5{x s:Nat}(h:2^s<=x):KC x=KC (x/2^s)+s:=by
 have hp:=two_pow_pos s;have h1:x≠0:=by omega
 have h2:x/2^s≠0:=by have:=(le_div_iff_mul_le hp).2 (show 1*2^s<=x by omega);omega
 unfold KC;rw[if_neg h1,if_neg h2,cr h];omega
theorem Oq{x s:Nat}(h:x<2^s):KC x<=s:=by
 unfold KC;split
 .omega
 .rename_i h0;exact(log2_lt h0).2 h
theorem ZV{x:Nat}(h:x<256){l:List UInt8}(hl:l[x]? = some (UInt8.ofNat (KC x))):Yf (.s l) (.i .u8 x)=some (.i .u8 (KC x:Nat)):=by have h2:KC x<=8:=Oq (s:=8) h;simp only[Yf];rw[if_pos (by omega),Int.toNat_natCast,hl];simp;omega
theorem conv8{k:IntKind}{n:Nat}(h:n<256):BA .u8 (.i k n)=some (.i .u8 n):=by
 rw[Nw]
 have e:IntKind.wrap .u8 (n:Int)=n:=by simp[IntKind.wrap,IntKind.signed,IntKind.bits];omega
 rw[e]
theorem convI{k:IntKind}{n:Nat}(h:n<9223372036854775808):BA .i64 (.i k n)=some (.i .i64 n):=by rw[Nw,QO h]
theorem Wj{l:List UInt8}(hl:∀x,x<256->l[x]? = some (UInt8.ofNat (KC x))){x y n:Nat}(hy:y<256)(he:n+KC y=KC x)(hn:n<=24){Q:D->Prop}(hQ:Q (.i .i64 (KC x:Nat))) :
  OX (BA .u8 (.i .u32 y)) fun x13=>OX (Yf (.s l) x13) fun x14=>OX (BA .i64 x14) fun x15=>OX (A4 .add .num (.i .i64 n) x15) fun x16=>Q x16:=by
 have h8:KC y<=8:=Oq (s:=8) hy;rw[conv8 hy,A5,ZV hy (hl y hy),A5,convI (by omega),A5,EB,<-natCast_add,he,QO (by omega),A5];exact hQ
theorem uT(x n:Nat):A4 .geq .num (.i .u32 x) (.i .u32 n)=some (.b (decide (n<=x))):=by rw[Ek];congr 2;simp
set_option maxRecDepth 20000 in
theorem v268{x:Nat}(hx:x<B):A0 (call dp) 268 [.i .u32 x]=some (.i .i64 (KC x:Nat)):=by
 apply i268 _ _ (by simp[A9]) (by simp);have g1:=uT x 65536;simp only[cast_ofNat_Int] at g1;unfold s268;simp only[Cq,g1,A5,jn,KN];by_cases c1:65536<=x
 .have e1:x/65536<65536:=by simp only[B] at hx;omega
  have hs:=LC (k:=.u32) (k':=.u64) (v:=x) (s:=16) (by decide);simp only[cast_ofNat_Int] at hs;have l1:=O5 (x:=x) (s:=16) c1;rw[show(2:Nat)^16=65536 from rfl] at hs l1;have g2:=uT (x/65536) 256;simp only[cast_ofNat_Int] at g2;simp only[c1,decide_true,if_true,hs,A5,g2,KN];by_cases c2:256<=x/65536
  .have Ro:=LC (k:=.u32) (k':=.u64) (v:=x/65536) (s:=8) (by decide);simp only[cast_ofNat_Int] at Ro;have l2:=O5 (x:=x/65536) (s:=8) c2;rw[show(2:Nat)^8=256 from rfl] at Ro l2;simp only[c2,decide_true,if_true,Ro,A5,EB];exact Wj len8 (n:=24) (by omega) (by omega) (by omega) rfl
  .simp only[c2,decide_false,false_eq_true,if_false];exact Wj len8 (n:=16) (by omega) (by omega) (by omega) rfl
 .have g2:=uT x 256;simp only[cast_ofNat_Int] at g2;simp only[c1,decide_false,false_eq_true,if_false,A5,g2,KN];by_cases c2:256<=x
  .have Ro:=LC (k:=.u32) (k':=.u64) (v:=x) (s:=8) (by decide);simp only[cast_ofNat_Int] at Ro;have l2:=O5 (x:=x) (s:=8) c2;rw[show(2:Nat)^8=256 from rfl] at Ro l2;simp only[c2,decide_true,if_true,Ro,A5,EB];exact Wj len8 (n:=8) (by omega) (by omega) (by omega) rfl
  .simp only[c2,decide_false,false_eq_true,if_false];exact Wj len8 (n:=0) (by omega) (by omega) (by omega) rfl
theorem v212{x:Nat}(hx:x<B)(h0:x≠0):A0 (call dp) 212 [.i .u32 x]=some (.i .i64 ((31-log2 x:Nat):Int)):=by apply i212 _ _ (by simp[A9]) (by simp);have hl:log2 x<32:=(log2_lt h0).2 hx;have e:KC x=log2 x+1:=if_neg h0;simp only[s212,Cq,v268 hx,A5,Cp,e,YX];rw[wrap64 ⟨by omega,by omega⟩];congr 1;omega
def VN(l:List Nat):Prop:=l.length<=128/\l.getLast? ≠ some 0
theorem VN.can{l:List Nat}(h:VN l)(k:CA l):NL.Can l:=⟨k,h.2⟩
theorem Cr{n:Nat}:VN (B1 n)<->BO n:=⟨fun h=>(Em n).2 h.1,fun h=>⟨(Em n).1 h,Zn n⟩⟩
theorem WK{l:List Nat}(h:l≠[]):l.getLast? = some (dg l (l.length-1)):=by
 rw[List.getLast?_eq_getElem?];have:l.length≠0:=by simpa using h
 exact Jk (by omega)
open Classical in
theorem v105(nl:Bool)(l:List Nat)(hb:Bd l.length):A0 (call dp) 105 [AD nl l .ro]=some (.b (decide (VN l))):=by
 apply i105 _ _ (by simp[A9]) rfl;simp only[s105,Bh,B2,A5,RX];by_cases h1:l.length<=128
 .have h1':(l.length:Int)<=128:=by omega
  by_cases h2:l=[]
  .subst h2;have:VN []:=⟨by simp,by simp⟩
   simp[this]
  .have hl:l.length≠0:=by simpa using h2
   have hw:IntKind.i64.wrap ((l.length:Int)-1)=((l.length-1:Nat):Int):=by rw[wrap64 ⟨by omega,by omega⟩];omega
   have ak:=Bt (nl:=nl) (o:=.ro) (k:=.i64) (l:=l) (i:=l.length-1) (by omega)
   have hv:VN l<->dg l (l.length-1)≠0:=by unfold VN;rw[WK h2];simp[h1]
   simp[h1',h2,hw,ak,hv]
 .have h1':¬(l.length:Int)<=128:=by omega
  have:¬VN l:=fun h=>h1 h.1;simp[h1',this]
theorem v143(nl:Bool)(l:List Nat)(hv:VN l):A0 (call dp) 143 [AD nl l .ro]=some (AD nl l .ro):=by apply i143 _ _ (by simp[A9]) (by simp);simp[s143,v105 nl l (by have:=hv.1;unfold Bd;omega),hv]
theorem uY{l:List Nat}(h:CA l){n:Nat}(hn:n<=l.length)(hz:∀j,n<=j->dg l j=0)(ht:n=0\/dg l (n-1)≠0):l.take n=B1 (val l):=by
 have hv:val (l.take n)=val l:=by
  have key:∀k,val (l.take (n+k))=val (l.take n):=by
   intro k
   induction k with
   |zero=>rfl
   |succ k ih=>rw[<-add_assoc,CK,hz _ (by omega),ih];simp
  have:=key l.length;rw[Ce (by omega)] at this;exact this.symm
 rw[<-hv];refine(MR ⟨Cf n h,?_⟩).symm;rcases ht with rfl|ht
 .simp
 .have h0:n≠0:=by rintro rfl;exact ht (hz _ (by omega))
  have CF:l.take n≠[]:=by
   intro e;have:(l.take n).length=0:=by rw[e];rfl
   rw[length_take] at this;omega
  rw[WK CF,length_take,min_eq_left hn]
  have:dg (l.take n) (n-1)=dg l (n-1):=by unfold dg;rw[List.getElem?_take_of_lt (by omega)]
  rw[this];simpa using ht
theorem v146(nl:Bool)(l:List Nat)(h:CA l)(hb:Bd l.length):A0 (call dp) 146 [AD nl l .ro]=some (AD nl (B1 (val l)) .ro):=by
 apply i146 _ _ (by simp[A9]) (by simp);simp only[s146,Bh,B2,A5]
 let J:Nat->List D->A1->Prop:=fun q fr S=>∃n a2 a15,q=n/\n<=l.length/\(∀j,n<=j->dg l j=0)/\fr=B0 21 [(0,AD nl l .ro),(2,a2),(3,.i .i64 n),(15,a15)]
 refine AW J ?_ l.length _ _ ⟨l.length,_,_,rfl,le_refl _,fun j hj=>Q7 hj,rfl⟩;rintro q fr S ⟨n,a2,a15,rfl,hle,hz,rfl⟩;rw[<-Ay,e146_0]
 have fin:(q=0\/dg l (q-1)≠0)->GG 1 (AD nl l .ro) none (some (.i .i64 q))=some (AD nl (B1 (val l)) .ro):=fun ht=>by rw[TW hle,uY h hle hz ht]
 by_cases Q0:0<q
 .obtain⟨m,rfl⟩:∃m,q=m+1:=⟨q-1,by omega⟩
  have w:IntKind.i64.wrap (m:Int)=m:=QO (by unfold Bd at hb;omega);have aX:(0:Int)<(m:Int)+1:=by omega
  have ak:=Bt (nl:=nl) (o:=.ro) (k:=.i64) (l:=l) (i:=m) (by omega);by_cases hd:dg l m=0
  .simp[Vu,aX,w,ak,hd];refine⟨m,by omega,m,_,_,rfl,by omega,fun j hj=>?_,rfl⟩;by_cases e:j=m
   .rw[e];exact hd
   .exact hz j (by omega)
  .have hf:=fin (.inr (by simpa using hd));simp only[natCast_add,cast_ofNat_Int] at hf;simp[Vu,aX,w,ak,hd,iK,Wk,hf]
 .have h0:q=0:=by omega
  have hf:=fin (.inl h0);subst h0;simp only[cast_ofNat_Int] at hf;simp[Vu,iK,Wk,hf]
theorem v134(nl:Bool)(l:List Nat)(h:CA l)(hb:Bd l.length) :
  A0 (call dp) 134 [AD nl l .ro]=some (if BO (val l) then .AY [AD nl (B1 (val l)) .ro,.i .i64 0] else .AY [.sl 1 true [] .ro,.i .i64 6]):=by
 apply i134 _ _ (by simp[A9]) (by split<;>simp[AG,A9,Bo]);simp only[s134,Bh,v146 nl l h hb,A5,B2,Mq];by_cases hc:BO (val l)
 .have:¬(128:Int)<(B1 (val l)).length:=by have:=(Em _).1 hc;omega
  simp[hc,this]
 .have:(128:Int)<(B1 (val l)).length:=by have:=Nat.lt_of_not_le fun k=>hc ((Em _).2 k);omega
  simp[hc,this,strip]
theorem oB{n:Nat}(h:n<18446744073709551616):CA [n%B,n/B]/\val [n%B,n/B]=n:=by
 refine⟨?_,?_⟩
 .intro x hx;simp only[B] at *;simp at hx;omega
 .simp only[val,mul_zero,add_zero];exact mod_add_div n B
theorem v83{n:Nat}(h:n<18446744073709551616):A0 (call dp) 83 [.i .u64 n]=some (AD false (B1 n) .ro):=by
 apply i83 _ _ (by simp[A9]) (by simp);obtain⟨h1,h2⟩:=oB h;have hd:n/B<B:=h1 _ (by simp);have e:=v146 false [n%B,n/B] h1 (by unfold Bd;simp);rw[h2] at e;have hc:∀a b:D,BF a=true->BF b=true->AV 1 false [a,b]=some [[a],[b]]:=fun a b ha hb=>by simp[AV,Am,ha,hb]
 simp only[s83,Cq,Kz,A5,Zy,O4 hd,hc _ _ (Oj _ _) (Oj _ _)];have e':A0 (call dp) 146 [.sl 1 false [[.i .u32 ((n%B:Nat):Int)],[.i .u32 ((n/B:Nat):Int)]] .ro]=some (AD false (B1 n) .ro):=e;rw[e'];simp
theorem v141(nl:Bool)(l:List Nat)(S:A1):call dp 141 [AD nl l .ro] S=some (.fn 221 [.bx S.length 0],.box [AD nl l .ro]::S):=by obtain⟨r,S',e,rfl,rfl⟩:=f141 (AD nl l .ro) S (fun d S'=>d=.fn 221 [.bx S.length 0]/\S'=.box [AD nl l .ro]::S) (by simp[s141]);exact e
theorem zS(nl:Bool)(l:List Nat)(k id:Nat)(S:A1)(h:AA S id=some (.box [AD nl l .ro])):call dp 221 [.i .i64 k,.bx id 0] S=some (.i .u32 (dg l k:Nat),S):=by
 obtain⟨r,S',e,rfl,rfl⟩:=f221 (.i .i64 k) (.bx id 0) S (fun d S'=>d=.i .u32 (dg l k:Nat)/\S'=S) (by
  by_cases hk:l.length<=k
  .have Qy:(l.length:Int)<=k:=by omega
   simp[s221,h,Qy,Q7 hk]
  .have Qy:¬(l.length:Int)<=k:=by omega
   have ak:=Bt (nl:=nl) (o:=.ro) (k:=.i64) (l:=l) (i:=k) (by omega)
   simp[s221,h,Qy,ak])
 exact e
theorem v222(n:Int):A0 (call dp) 222 [.i .i64 n]=some (.b false):=by apply i222 _ _ (by simp[A9]) rfl;simp[pZ]
theorem v223(n:Int):A0 (call dp) 223 [.i .u32 n]=some (.b false):=by apply i223 _ _ (by simp[A9]) rfl;simp[s223]
theorem v144(a b:Nat):A0 (call dp) 144 [.i .i64 a,.i .i64 b]=some (.i .i64 (bS a b)):=by
 apply i144 _ _ _ (by simp[A9]) rfl;simp only[rX,Cq,v222,A5,KN,false_eq_true,if_false,Jv,Mq,decide_eq_true_eq];unfold bS;rcases Nat.lt_trichotomy a b with h|h|h
 .rw[if_pos (by omega),if_pos h];rfl
 .rw[if_neg (by omega),if_neg (by omega),if_neg (by omega),if_pos h];rfl
 .rw[if_neg (by omega),if_pos (by omega),if_neg (by omega),if_neg (by omega)];rfl
theorem v145(a b:Nat):A0 (call dp) 145 [.i .u32 a,.i .u32 b]=some (.i .i64 (bS a b)):=by
 apply i145 _ _ _ (by simp[A9]) rfl;simp only[s145,Cq,v223,A5,KN,false_eq_true,if_false,Jv,Mq,decide_eq_true_eq];unfold bS;rcases Nat.lt_trichotomy a b with h|h|h
 .rw[if_pos (by omega),if_pos h];rfl
 .rw[if_neg (by omega),if_neg (by omega),if_neg (by omega),if_pos h];rfl
 .rw[if_neg (by omega),if_pos (by omega),if_neg (by omega),if_neg (by omega)];rfl
theorem tF{x y a b:Nat}(h1:a<b->x<y)(h2:b<a->y<x)(h3:a≠b):bS a b=bS x y:=by
 unfold bS;rcases lt_or_ge a b with h|h
 .rw[if_pos h,if_pos (h1 h)]
 .have h':b<a:=by omega
  have:=h2 h';rw[if_neg (by omega),if_neg (by omega),if_neg (by omega),if_neg (by omega)]
theorem drop_eq{a b:List Nat}{k:Nat}(ha:k<a.length)(hb:k<b.length)(h:a.drop (k+1)=b.drop (k+1))(e:dg a k=dg b k):a.drop k=b.drop k:=by rw[MY ha,MY hb,e,h]
theorem v82(nl B3:Bool)(a b:List Nat)(ha:VN a)(hb:VN b)(la:CA a)(lb:CA b):A0 (call dp) 82 [AD nl a .ro,AD B3 b .ro]=some (.i .i64 (bS (val a) (val b))):=by
 apply i82 _ _ _ (by simp[A9]) rfl;have h1:=ha.1;have h2:=hb.1;simp only[s82,Bh,v143 nl a ha,v143 B3 b hb,A5,B2,JA,KN];by_cases hl:a.length=b.length
 .have ab:(a.length:Int)=(b.length:Int):=by omega
  simp only[ab,decide_true,Bool.not_true,false_eq_true,if_false,Cp,A5];rw[wrap64 ⟨by omega,by omega⟩]
  let J:Nat->List D->A1->Prop:=fun q fr S=>∃a4 a24,q<=b.length/\a.drop q=b.drop q/\fr=B0 45 [(0,AD nl a .ro),(1,AD B3 b .ro),(4,a4),(5,.i .i64 ((q:Int)-1)),(24,a24)]
  refine AW J ?_ b.length _ _ ⟨_,_,le_refl _,by rw[drop_of_length_le (by omega),drop_of_length_le (by omega)],rfl⟩;rintro q fr S ⟨a4,a24,hq,he,rfl⟩;rw[<-Ay,e82_0];by_cases h0:q=0
  .subst h0;have:a=b:=by simpa using he
   subst this;simp[kF,e82_r0,vH,bS]
  .obtain⟨k,rfl⟩:∃k,q=k+1:=⟨q-1,by omega⟩
   have e1:((k+1:Nat):Int)-1=k:=by omega
   have i1:=Bt (nl:=nl) (o:=.ro) (k:=.i64) (l:=a) (i:=k) (by omega);have i2:=Bt (nl:=B3) (o:=.ro) (k:=.i64) (l:=b) (i:=k) (by omega);rw[e1];by_cases hd:dg a k=dg b k
   .have w:IntKind.i64.wrap ((k:Int)-1)=(k:Int)-1:=wrap64 ⟨by omega,by omega⟩;have e2:((dg a k:Nat):Int)=((dg b k:Nat):Int):=by omega
    simp[kF,i1,i2,hd,w];exact⟨k,by omega,_,_,by omega,drop_eq (by omega) (by omega) he hd,rfl⟩
   .have e2:¬((dg a k:Nat):Int)=((dg b k:Nat):Int):=by omega
    have hs:=tF (x:=val a) (y:=val b) (a:=dg a k) (b:=dg b k) (fun h=>lt_at la he (Jk (by omega)) (Jk (by omega)) h) (fun h=>lt_at lb he.symm (Jk (by omega)) (Jk (by omega)) h) hd;simp[kF,i1,i2,e2,v145,hs,hd]
 .have ab:¬(a.length:Int)=(b.length:Int):=by omega
  have hs:=tF (x:=val a) (y:=val b) (a:=a.length) (b:=b.length) (fun h=>dY la (hb.can lb) h) (fun h=>dY lb (ha.can la) h) hl;simp only[ab,decide_false,Bool.not_false,if_true,v144,A5,hs];rfl
end Go.Proofs.YtjniafcnjbbomaaGreatDoor.DE.V
namespace Go.Proofs.YtjniafcnjbbomaaGreatDoor.DE
section
open Go
variable (cf:AQ)(a0 a1 a2 a3 a4 a5 a6 a8 a9 a10 a11 a12 a13 a14 a15 a16 a17 a18 a95 a142 a149:D)(S:A1)(Q:QT)(Post:PT)
abbrev m80(a4 a5 a6 a7 a8 a9 a31 a32 a33:D):List D:=B0 54 [(4,a4),(5,a5),(6,a6),(7,a7),(8,a8),(9,a9),(31,a31),(32,a32),(33,a33)]
def uM:oh:=fun cf a4 a5 a6 a7 a8 a9 a31 a32 a33 S Q=>OX (Lr a8 S) fun p1=>OX (A0 cf 134 [p1.1]) fun x2=>OX (Ag x2 0) fun x3=>OX (Ag x2 1) fun x4=>Q .ret (m80 x3 x4 .top .top .top .top .top .top .top) p1.2
def e80_r0:N9 cX m80 uM:=kN9
def qw:oh:=fun cf a4 a5 a6 a7 a8 a9 a31 a32 a33 S Q=>OX (A4 .lss .num a32 a31) fun x5=>WB x5
 (OX (NT a6) fun q7=>OX (cf q7.1 ([a32]++q7.2) S) fun p8=>OX (NT a7) fun q10=>OX (cf q10.1 ([a32]++q10.2) p8.2) fun p11=>OX (A0 cf 142 [p8.1,p11.1,a9]) fun x12=>OX (Ag x12 0) fun x13=>OX (Ag x12 1) fun x14=>OX (Ak 1 a8 a32) fun x15=>OX (Ax p11.2 1 false x15 x13) fun S17=>OX (A4 .add .num a32 (.n 1)) fun x18=>Q .normal (m80 a4 a5 a6 a7 a8 x14 a31 x18 .top) S17)
 (Q (.exit 0) (m80 a4 a5 a6 a7 a8 a9 a31 a32 x5) S)
def e80_0:L9 vR m80 qw:=kL9
def s80:Cn:=fun cf a0 a1 S Post=>OX (A0 cf 105 [a0]) fun x19=>OX (ES .not x19) fun x20=>OX (A8 x20 false (some a1)) fun x21=>OX (A8 x20 false (A0 cf 105 [x21])) fun x22=>OX (A8 x20 false (ES .not x22)) fun x23=>OX (AU x20 (.b true) x23) fun x24=>WB x24
 (Post (.AY [(.z 1),(.n 1)]) S)
 (OX (cf 141 [a0] S) fun p26=>OX (cf 141 [a1] p26.2) fun p28=>OX (AK false a0) fun x29=>OX (AK false a1) fun x30=>OX (yD x29 x30) fun x31=>OX (A4 .add .num x31 (.n 1)) fun x32=>OX (Lv 1 true [.i .u32 0] p28.2 x32) fun p34=>OX (AK false p34.1) fun x35=>W cf (.loop [] vR) (m80 .top .top p26.1 p28.1 p34.1 (.i .u32 0) x35 (.n 0) .top) p34.2 (Af 0 (QS cf cX (Aw [.t 4,.t 5] Post))))
def i80:I2 80 s80:=Oc d80
abbrev lr(a4 a5 a6 a7 a8 a9 a33 a34 a35:D):List D:=B0 54 [(4,a4),(5,a5),(6,a6),(7,a7),(8,a8),(9,a9),(33,a33),(34,a34),(35,a35)]
def iT:oh:=fun cf a4 a5 a6 a7 a8 a9 a33 a34 a35 S Q=>OX (Lr a8 S) fun p1=>OX (A0 cf 146 [p1.1]) fun x2=>Q .ret (lr x2 (.b true) .top .top .top .top .top .top .top) p1.2
def e161_r0:N9 Vt lr iT:=kN9
def cg:oh:=fun cf a4 a5 a6 a7 a8 a9 a33 a34 a35 S Q=>OX (A4 .lss .num a34 a33) fun x3=>WB x3
 (OX (NT a6) fun q5=>OX (cf q5.1 ([a34]++q5.2) S) fun p6=>OX (NT a7) fun q8=>OX (cf q8.1 ([a34]++q8.2) p6.2) fun p9=>OX (A0 cf 243 [p6.1,p9.1,a9]) fun x10=>OX (Ag x10 0) fun x11=>OX (Ag x10 1) fun x12=>OX (Ak 1 a8 a34) fun x13=>OX (Ax p9.2 1 false x13 x11) fun S15=>OX (A4 .add .num a34 (.n 1)) fun x16=>Q .normal (lr a4 a5 a6 a7 a8 x12 a33 x16 .top) S15)
 (Q (.exit 0) (lr a4 a5 a6 a7 a8 a9 a33 a34 x3) S)
def e161_0:L9 eP lr cg:=kL9
def s161:Cn:=fun cf a0 a1 S Post=>OX (A0 cf 105 [a0]) fun x17=>OX (ES .not x17) fun x18=>OX (A8 x18 false (some a1)) fun x19=>OX (A8 x18 false (A0 cf 105 [x19])) fun x20=>OX (A8 x18 false (ES .not x20)) fun x21=>OX (AU x18 (.b true) x21) fun x22=>OX (A8 x22 false (some a0)) fun x23=>OX (A8 x22 false (some a1)) fun x24=>OX (A8 x22 false (A0 cf 82 [x23,x24])) fun x25=>OX (A8 x22 false (A4 .lss .num x25 (.n 0))) fun x26=>OX (AU x22 (.b true) x26) fun x27=>WB x27
 (Post (.AY [(.z 1),(.b false)]) S)
 (OX (cf 141 [a0] S) fun p29=>OX (cf 141 [a1] p29.2) fun p31=>OX (AK false a0) fun x32=>OX (Lv 1 true [.i .u32 0] p31.2 x32) fun p34=>OX (AK false p34.1) fun x35=>W cf (.loop [] eP) (lr .top .top p29.1 p31.1 p34.1 (.i .u32 0) x35 (.n 0) .top) p34.2 (Af 0 (QS cf Vt (Aw [.t 4,.t 5] Post))))
def i161:I2 161 s161:=Oc d161
abbrev oI(a0 a1 a4 a5 a6 a7 a8 a26 a27 a28 a31 a32 a33:D):List D:=B0 79 [(0,a0),(1,a1),(4,a4),(5,a5),(6,a6),(7,a7),(8,a8),(26,a26),(27,a27),(28,a28),(31,a31),(32,a32),(33,a33)]
def ur:Po:=fun cf a0 a1 a4 a5 a6 a7 a8 a26 a27 a28 a31 a32 a33 S Q=>OX (AK false a1) fun x1=>OX (A4 .add .num a7 x1) fun x2=>OX (BA .u32 a8) fun x3=>OX (Ak 1 a6 x2) fun x4=>OX (Ax S 1 false x4 x3) fun S6=>Q .normal (oI a0 a1 a4 a5 a6 .top .top a26 a27 a28 .top .top .top) S6
def e70_r0:N13 eX oI ur:=vJ
def rG:Po:=fun cf a0 a1 a4 a5 a6 a7 a8 a26 a27 a28 a31 a32 a33 S Q=>OX (A4 .add .num a27 (.n 1)) fun x7=>Q .normal (oI a0 a1 a4 a5 a6 a7 a8 a26 x7 a28 a31 a32 a33) S
def e70_r1:N13 az oI rG:=vJ
def rA:Po:=fun cf a0 a1 a4 a5 a6 a7 a8 a26 a27 a28 a31 a32 a33 S Q=>OX (A4 .lss .num a32 a31) fun x8=>WB x8
 (OX (Ak 1 a0 a7) fun x9=>OX (AE S 1 false x9) fun x10=>OX (BA .u64 x10) fun x11=>OX (Ak 1 a1 a32) fun x12=>OX (AE S 1 false x12) fun x13=>OX (BA .u64 x13) fun x14=>OX (A4 .mul .num x11 x14) fun x15=>OX (A4 .add .num a7 a32) fun x16=>OX (Ak 1 a6 x16) fun x17=>OX (AE S 1 false x17) fun x18=>OX (BA .u64 x18) fun x19=>OX (A4 .add .num x15 x19) fun x20=>OX (A4 .add .num x20 a8) fun x21=>OX (A4 .add .num a7 a32) fun x22=>OX (BA .u32 x21) fun x23=>OX (A4 .shr .num x21 (.i .u64 32)) fun x24=>OX (Ak 1 a6 x22) fun x25=>OX (Ax S 1 false x25 x23) fun S27=>OX (A4 .add .num a32 (.n 1)) fun x28=>Q .normal (oI a0 a1 a4 a5 a6 a7 x24 a26 a27 a28 a31 x28 .top) S27)
 (Q (.exit 2) (oI a0 a1 a4 a5 a6 a7 a8 a26 a27 a28 a31 a32 x8) S)
def e70_0:L13 sL oI rA:=kL13
def px:Po:=fun cf a0 a1 a4 a5 a6 a7 a8 a26 a27 a28 a31 a32 a33 S Q=>OX (Lr a6 S) fun p29=>OX (A0 cf 134 [p29.1]) fun x30=>OX (Ag x30 0) fun x31=>OX (Ag x30 1) fun x32=>Q .ret (oI .top .top x31 x32 .top a7 a8 .top .top .top a31 a32 a33) p29.2
def e70_r2:N13 cI oI px:=vJ
def sF:Po:=fun cf a0 a1 a4 a5 a6 a7 a8 a26 a27 a28 a31 a32 a33 S Q=>OX (A4 .lss .num a27 a26) fun x33=>WB x33
 (OX (AK false a1) fun x34=>W cf (.loop [] sL) (oI a0 a1 a4 a5 a6 a27 (.i .u64 0) a26 a27 .top x34 (.n 0) a33) S (Af 2 (QS cf eX (Af 1 (QS cf az Q)))))
 (Q (.exit 0) (oI a0 a1 a4 a5 a6 a7 a8 a26 a27 x33 a31 a32 a33) S)
def e70_1:L13 tj oI sF:=kL13
def s70:Cn:=fun cf a0 a1 S Post=>OX (A0 cf 105 [a0]) fun x35=>OX (ES .not x35) fun x36=>OX (A8 x36 false (some a1)) fun x37=>OX (A8 x36 false (A0 cf 105 [x37])) fun x38=>OX (A8 x36 false (ES .not x38)) fun x39=>OX (AU x36 (.b true) x39) fun x40=>WB x40
 (Post (.AY [(.z 1),(.n 1)]) S)
 (OX (AK false a0) fun x41=>OX (AK false a1) fun x42=>OX (A4 .add .num x41 x42) fun x43=>OX (Lv 1 true [.i .u32 0] S x43) fun p45=>OX (AK false a0) fun x46=>W cf (.loop [] tj) (oI a0 a1 .top .top p45.1 .top .top x46 (.n 0) .top .top .top .top) p45.2 (Af 0 (QS cf cI (Aw [.t 4,.t 5] Post))))
def i70:I2 70 s70:=Oc d70
abbrev lQ(a0 a1 a4 a5 a6 a7 a8 a16:D):List D:=B0 43 [(0,a0),(1,a1),(4,a4),(5,a5),(6,a6),(7,a7),(8,a8),(16,a16)]
def iI:PW:=fun cf a0 a1 a4 a5 a6 a7 a8 a16 S Q=>OX (Lr a6 S) fun p1=>OX (A0 cf 146 [p1.1]) fun x2=>OX (BA .u32 a7) fun x3=>Q .ret (lQ .top .top x2 x3 .top .top .top .top) p1.2
def zF:N8 Y8 lQ iI:=uS
def dH:PW:=fun cf a0 a1 a4 a5 a6 a7 a8 a16 S Q=>OX (A4 .geq .num a8 (.n 0)) fun x4=>WB x4
 (OX (A4 .shl .num a7 (.i .u64 32)) fun x5=>OX (Ak 1 a0 a8) fun x6=>OX (AE S 1 false x6) fun x7=>OX (BA .u64 x7) fun x8=>OX (A4 .or .num x5 x8) fun x9=>OX (BA .u64 a1) fun x10=>OX (A4 .quo .num x9 x10) fun x11=>OX (BA .u32 x11) fun x12=>OX (BA .u64 a1) fun x13=>OX (A4 .rem .num x9 x13) fun x14=>OX (Ak 1 a6 a8) fun x15=>OX (Ax S 1 false x15 x12) fun S17=>OX (A4 .sub .num a8 (.n 1)) fun x18=>Q .normal (lQ a0 a1 a4 a5 a6 x14 x18 .top) S17)
 (Q (.exit 0) (lQ a0 a1 a4 a5 a6 a7 a8 x4) S)
def e154_0:L8 eJ lQ dH:=uA
def s154:Cn:=fun cf a0 a1 S Post=>OX (AK false a0) fun x19=>OX (Lv 1 true [.i .u32 0] S x19) fun p21=>OX (AK false a0) fun x22=>OX (A4 .sub .num x22 (.n 1)) fun x23=>W cf (.loop [] eJ) (lQ a0 a1 .top .top p21.1 (.i .u64 0) x23 .top) p21.2 (Af 0 (QS cf Y8 (Aw [.t 4,.t 5] Post)))
def i154:I2 154 s154:=Oc d154
abbrev nW(a0 a1 a4 a5 a13 a14 a15:D):List D:=B0 41 [(0,a0),(1,a1),(4,a4),(5,a5),(13,a13),(14,a14),(15,a15)]
def kK:Sx:=fun cf a0 a1 a4 a5 a13 a14 a15 S Q=>OX (Lr a5 S) fun p1=>Q .ret (nW .top .top p1.1 .top .top .top .top) p1.2
def yz:N7 We nW kK:=yH
def dT:Sx:=fun cf a0 a1 a4 a5 a13 a14 a15 S Q=>OX (A4 .lss .num a14 a13) fun x2=>WB x2
 (OX (Ak 1 a0 a14) fun x3=>OX (AE S 1 false x3) fun x4=>OX (BA .u64 x4) fun x5=>OX (A4 .shl .num x5 a1) fun x6=>OX (Ak 1 a5 a14) fun x7=>OX (AE S 1 false x7) fun x8=>OX (BA .u32 x6) fun x9=>OX (A4 .or .num x8 x9) fun x10=>OX (Ak 1 a5 a14) fun x11=>OX (Ax S 1 false x11 x10) fun S13=>OX (A4 .add .num a14 (.n 1)) fun x14=>OX (A4 .shr .num x6 (.i .u64 32)) fun x15=>OX (BA .u32 x15) fun x16=>OX (Ak 1 a5 x14) fun x17=>OX (Ax S13 1 false x17 x16) fun S19=>OX (A4 .add .num a14 (.n 1)) fun x20=>Q .normal (nW a0 a1 a4 a5 a13 x20 .top) S19)
 (Q (.exit 0) (nW a0 a1 a4 a5 a13 a14 x2) S)
def e213_0:L7 Xk nW dT:=yx
def s213:Cn:=fun cf a0 a1 S Post=>OX (AK false a0) fun x21=>OX (A4 .add .num x21 (.n 1)) fun x22=>OX (Lv 1 true [.i .u32 0] S x22) fun p24=>OX (AK false a0) fun x25=>W cf (.loop [] Xk) (nW a0 a1 .top p24.1 x25 (.n 0) .top) p24.2 (Af 0 (QS cf We (Aw [.t 4] Post)))
def e213:E2 d213 s213:=PL
def j213:J2 213 s213:=UE d213 (e:=e213)
abbrev uI(a0 a1 a4 a5 a13 a14 a15:D):List D:=B0 41 [(0,a0),(1,a1),(4,a4),(5,a5),(13,a13),(14,a14),(15,a15)]
def aF:Sx:=fun cf a0 a1 a4 a5 a13 a14 a15 S Q=>Q .ret (uI .top .top a5 .top .top .top .top) S
def xA:N7 SU uI aF:=yH
def vN:Cn:=fun cf a0 a1 S Post=>OX (AK false a0) fun x20=>OX (A4 .add .num x20 (.n 1)) fun x21=>OX (Lv 1 true [.i .u32 0] S x21) fun p23=>OX (AK false a0) fun x24=>W cf (.loop [] kZ) (uI a0 a1 .top p23.1 x24 (.n 0) .top) p23.2 (Af 0 (QS cf SU (Aw [.t 4] Post)))
def sG:E2 uo vN:=PL
def f1213:F2 1213 vN:=eR uo (e:=sG)
abbrev nv(a0 a1 a4 a5 a12 a13 a14:D):List D:=B0 44 [(0,a0),(1,a1),(4,a4),(5,a5),(12,a12),(13,a13),(14,a14)]
def jy:Sx:=fun cf a0 a1 a4 a5 a12 a13 a14 S Q=>OX (Lr a5 S) fun p1=>Q .ret (nv .top .top p1.1 .top .top .top .top) p1.2
def zg:N7 Vy nv jy:=yH
def XM:Sx:=fun cf a0 a1 a4 a5 a12 a13 a14 S Q=>OX (A4 .lss .num a13 a12) fun x2=>WB x2
 (OX (Ak 1 a0 a13) fun x3=>OX (AE S 1 false x3) fun x4=>OX (BA .u64 x4) fun x5=>OX (A4 .add .num a13 (.n 1)) fun x6=>OX (AK false a0) fun x7=>OX (A4 .lss .num x6 x7) fun x8=>jn (fun(y10 y11 y12 y13 y14 y15 y16 y17 y18:D) (S19:A1)=>OX (A4 .shr .num y15 y11) fun x20=>OX (BA .u32 x20) fun x21=>OX (Ak 1 y13 y14) fun x22=>OX (Ax S19 1 false x22 x21) fun S24=>OX (A4 .add .num y17 (.n 1)) fun x25=>Q .normal (nv y10 y11 y12 y13 y16 x25 .top) S24) fun k9=>WB x8
 (OX (A4 .add .num a13 (.n 1)) fun x26=>OX (Ak 1 a0 x26) fun x27=>OX (AE S 1 false x27) fun x28=>OX (BA .u64 x28) fun x29=>OX (A4 .shl .num x29 (.i .u64 32)) fun x30=>OX (A4 .or .num x5 x30) fun x31=>k9 a0 a1 a4 a5 a13 x31 a12 a13 D.top S)
 (k9 a0 a1 a4 a5 a13 x5 a12 a13 x8 S))
 (Q (.exit 0) (nv a0 a1 a4 a5 a12 a13 x2) S)
def e216_0:L7 ec nv XM:=yx
def s216:Cn:=fun cf a0 a1 S Post=>OX (AK false a0) fun x32=>OX (Lv 1 true [.i .u32 0] S x32) fun p34=>OX (AK false a0) fun x35=>W cf (.loop [] ec) (nv a0 a1 .top p34.1 x35 (.n 0) .top) p34.2 (Af 0 (QS cf Vy (Aw [.t 4] Post)))
def e216:E2 d216 s216:=PL
def j216:J2 216 s216:=UE d216 (e:=e216)
abbrev o4(a0 a1 a2 a3 a8 a9 a10 a13 a14 a15:D):List D:=B0 69 [(0,a0),(1,a1),(2,a2),(3,a3),(8,a8),(9,a9),(10,a10),(13,a13),(14,a14),(15,a15)]
def iZ:yX:=fun cf a0 a1 a2 a3 a8 a9 a10 a13 a14 a15 S Q=>OX (AK false a1) fun x1=>OX (A4 .add .num a2 x1) fun x2=>OX (AK false a1) fun x3=>OX (A4 .add .num a2 x3) fun x4=>OX (Ak 1 a0 x4) fun x5=>OX (AE S 1 false x5) fun x6=>OX (BA .u32 a9) fun x7=>OX (A0 cf 243 [x6,x7,a10]) fun x8=>OX (Ag x8 0) fun x9=>OX (Ag x8 1) fun x10=>OX (Ak 1 a0 x2) fun x11=>OX (Ax S 1 false x11 x9) fun S13=>OX (A4 .eql .num x10 (.i .u32 1)) fun x14=>Q .ret (o4 .top .top .top .top x14 .top .top .top .top .top) S13
theorem e214_r0:wp cf X4 (o4 a0 a1 a2 a3 a8 a9 a10 a13 a14 a15) S Q=iZ cf a0 a1 a2 a3 a8 a9 a10 a13 a14 a15 S Q:=B4 (by kernel_rfl)
def cO:yX:=fun cf a0 a1 a2 a3 a8 a9 a10 a13 a14 a15 S Q=>OX (A4 .lss .num a14 a13) fun x15=>WB x15
 (OX (Ak 1 a1 a14) fun x16=>OX (AE S 1 false x16) fun x17=>OX (BA .u64 x17) fun x18=>OX (A4 .mul .num a3 x18) fun x19=>OX (A4 .add .num a9 x19) fun x20=>OX (A4 .add .num a2 a14) fun x21=>OX (A4 .add .num a2 a14) fun x22=>OX (Ak 1 a0 x22) fun x23=>OX (AE S 1 false x23) fun x24=>OX (BA .u32 x20) fun x25=>OX (A0 cf 243 [x24,x25,a10]) fun x26=>OX (Ag x26 0) fun x27=>OX (Ag x26 1) fun x28=>OX (Ak 1 a0 x21) fun x29=>OX (Ax S 1 false x29 x27) fun S31=>OX (A4 .shr .num x20 (.i .u64 32)) fun x32=>OX (A4 .add .num a14 (.n 1)) fun x33=>Q .normal (o4 a0 a1 a2 a3 a8 x32 x28 a13 x33 .top) S31)
 (Q (.exit 0) (o4 a0 a1 a2 a3 a8 a9 a10 a13 a14 x15) S)
theorem e214_0:wp cf fB (B7 (o4 a0 a1 a2 a3 a8 a9 a10 a13 a14 a15) []) S Q=cO cf a0 a1 a2 a3 a8 a9 a10 a13 a14 a15 S Q:=B4 (by kernel_rfl)
def s214:lX:=fun cf a0 a1 a2 a3 S Post=>OX (AK false a1) fun x34=>W cf (.loop [] fB) (o4 a0 a1 a2 a3 .top (.i .u64 0) (.i .u32 0) x34 (.n 0) .top) S (Af 0 (QS cf X4 (Aw [.t 8] Post)))
def f214:F4 214 s214:=mF4 d214
abbrev nU(a0 a1 a2 a6 a9 a10 a11:D):List D:=B0 44 [(0,a0),(1,a1),(2,a2),(6,a6),(9,a9),(10,a10),(11,a11)]
def iy:Sx:=fun cf a0 a1 a2 a6 a9 a10 a11 S Q=>OX (AK false a1) fun x1=>OX (A4 .add .num a2 x1) fun x2=>OX (Ak 1 a0 x2) fun x3=>OX (AE S 1 false x3) fun x4=>OX (A4 .add .num x4 a6) fun x5=>OX (Ak 1 a0 x2) fun x6=>OX (Ax S 1 false x6 x5) fun S8=>Q .normal (nU .top .top .top .top .top .top .top) S8
def zA:N7 WS nU iy:=yH
def bp:Sx:=fun cf a0 a1 a2 a6 a9 a10 a11 S Q=>OX (A4 .lss .num a10 a9) fun x9=>WB x9
 (OX (A4 .add .num a2 a10) fun x10=>OX (A4 .add .num a2 a10) fun x11=>OX (Ak 1 a0 x11) fun x12=>OX (AE S 1 false x12) fun x13=>OX (Ak 1 a1 a10) fun x14=>OX (AE S 1 false x14) fun x15=>OX (A0 cf 142 [x13,x15,a6]) fun x16=>OX (Ag x16 0) fun x17=>OX (Ag x16 1) fun x18=>OX (Ak 1 a0 x10) fun x19=>OX (Ax S 1 false x19 x17) fun S21=>OX (A4 .add .num a10 (.n 1)) fun x22=>Q .normal (nU a0 a1 a2 x18 a9 x22 .top) S21)
 (Q (.exit 0) (nU a0 a1 a2 a6 a9 a10 x9) S)
def e215_0:L7 cM nU bp:=yx
def s215:Pq:=fun cf a0 a1 a2 S Post=>OX (AK false a1) fun x23=>W cf (.loop [] cM) (nU a0 a1 a2 (.i .u32 0) x23 (.n 0) .top) S (Af 0 (QS cf WS (Aw [] Post)))
def f215:F3 215 s215:=mF3 d215
abbrev Ot(a4 a5 a6 a9 a10 a11 a12 a13 a14 a15 a17 a18 a95 a142 a149:D):List D:=B0 175 [(4,a4),(5,a5),(6,a6),(9,a9),(10,a10),(11,a11),(12,a12),(13,a13),(14,a14),(15,a15),(17,a17),(18,a18),(95,a95),(142,a142),(149,a149)]
def XU:bJ:=fun cf a4 a5 a6 a9 a10 a11 a12 a13 a14 a15 a17 a18 a95 a142 a149 S Q=>OX (cf 214 [a11,a10,a15,a17] S) fun p2=>jn (fun(y4 y5 y6 y7 y8 y9 y10 y11 y12 y13 y14 y15 y16:D) (S17:A1)=>OX (BA .u32 y14) fun x18=>OX (Ak 1 y10 y13) fun x19=>OX (Ax S17 1 false x19 x18) fun S21=>Q .normal (Ot y4 y5 y6 y7 y8 y9 y10 y11 y12 y13 .top .top y15 .top .top) S21) fun k3=>WB p2.1
 (OX (A4 .sub .num a17 (.i .u64 1)) fun x22=>OX (cf 215 [a11,a10,a15] p2.2) fun p24=>k3 a4 a5 a6 a9 a10 a11 a12 a13 a14 a15 x22 a95 D.top p24.2)
 (k3 a4 a5 a6 a9 a10 a11 a12 a13 a14 a15 a17 a95 p2.1 p2.2)
def e135_r0:N15 RH Ot XU:=kN15
def jJ:bJ:=fun cf a4 a5 a6 a9 a10 a11 a12 a13 a14 a15 a17 a18 a95 a142 a149 S Q=>OX (A4 .sub .num a15 (.n 1)) fun x25=>Q .normal (Ot a4 a5 a6 a9 a10 a11 a12 a13 a14 x25 a17 a18 a95 a142 a149) S
def e135_r1:N15 Rh Ot jJ:=kN15
def bB:bJ:=fun cf a4 a5 a6 a9 a10 a11 a12 a13 a14 a15 a17 a18 a95 a142 a149 S Q=>OX (A4 .geq .num a17 (.i .u64 4294967296)) fun x26=>OX (A8 x26 false (some a17)) fun x27=>OX (A8 x26 false (some a14)) fun x28=>OX (A8 x26 false (A4 .mul .num x27 x28)) fun x29=>OX (A8 x26 false (some a18)) fun x30=>OX (A8 x26 false (A4 .shl .num x30 (.i .u64 32))) fun x31=>OX (A8 x26 false (some a11)) fun x32=>OX (A8 x26 false (some a15)) fun x33=>OX (A8 x26 false (some a10)) fun x34=>OX (A8 x26 false (AK false x34)) fun x35=>OX (A8 x26 false (A4 .add .num x33 x35)) fun x36=>OX (A8 x26 false (A4 .sub .num x36 (.n 2))) fun x37=>OX (A8 x26 false (Ak 1 x32 x37)) fun x38=>OX (A8 x26 false (AE S 1 false x38)) fun x39=>OX (A8 x26 false (BA .u64 x39)) fun x40=>OX (A8 x26 false (A4 .or .num x31 x40)) fun x41=>OX (A8 x26 false (A4 .gtr .num x29 x41)) fun x42=>OX (AU x26 (.b true) x42) fun x43=>WB x43
 (OX (A4 .sub .num a17 (.i .u64 1)) fun x44=>OX (A4 .add .num a18 a13) fun x45=>OX (A4 .geq .num x45 (.i .u64 4294967296)) fun x46=>WB x46
 (Q (.exit 2) (Ot a4 a5 a6 a9 a10 a11 a12 a13 a14 a15 x44 x45 a95 .top x46) S)
 (Q .normal (Ot a4 a5 a6 a9 a10 a11 a12 a13 a14 a15 x44 x45 a95 .top x46) S))
 (Q (.exit 2) (Ot a4 a5 a6 a9 a10 a11 a12 a13 a14 a15 a17 a18 a95 x43 .top) S)
theorem e135_0:wp cf dr (B7 (Ot a4 a5 a6 a9 a10 a11 a12 a13 a14 a15 a17 a18 a95 a142 a149) [149]) S Q=bB cf a4 a5 a6 a9 a10 a11 a12 a13 a14 a15 a17 a18 a95 a142 a149 S Q:=B4 (by kernel_rfl)
def jR:bJ:=fun cf a4 a5 a6 a9 a10 a11 a12 a13 a14 a15 a17 a18 a95 a142 a149 S Q=>OX (Lr a11 S) fun p47=>OX (Lr a12 p47.2) fun p48=>OX (A0 cf 146 [p48.1]) fun x49=>OX (AK false a10) fun x50=>OX (GG 1 p47.1 none (some x50)) fun x51=>OX (A0 cf 216 [x51,a9]) fun x52=>OX (A0 cf 146 [x52]) fun x53=>Q .ret (Ot x49 x53 (.n 0) .top .top .top .top .top .top .top a17 a18 .top a142 a149) p48.2
def AAN:N15 RL Ot jR:=kN15
def XR:bJ:=fun cf a4 a5 a6 a9 a10 a11 a12 a13 a14 a15 a17 a18 a95 a142 a149 S Q=>OX (A4 .geq .num a15 (.n 0)) fun x54=>WB x54
 (OX (AK false a10) fun x55=>OX (A4 .add .num a15 x55) fun x56=>OX (Ak 1 a11 x56) fun x57=>OX (AE S 1 false x57) fun x58=>OX (BA .u64 x58) fun x59=>OX (A4 .shl .num x59 (.i .u64 32)) fun x60=>OX (AK false a10) fun x61=>OX (A4 .add .num a15 x61) fun x62=>OX (A4 .sub .num x62 (.n 1)) fun x63=>OX (Ak 1 a11 x63) fun x64=>OX (AE S 1 false x64) fun x65=>OX (BA .u64 x65) fun x66=>OX (A4 .or .num x60 x66) fun x67=>OX (A4 .quo .num x67 a13) fun x68=>OX (A4 .rem .num x67 a13) fun x69=>W cf (.loop [149] dr) (Ot a4 a5 a6 a9 a10 a11 a12 a13 a14 a15 x68 x69 .top a142 a149) S (Af 2 (QS cf RH (Af 1 (QS cf Rh Q)))))
 (Q (.exit 0) (Ot a4 a5 a6 a9 a10 a11 a12 a13 a14 a15 a17 a18 x54 a142 a149) S)
theorem e135_1:wp cf fE (B7 (Ot a4 a5 a6 a9 a10 a11 a12 a13 a14 a15 a17 a18 a95 a142 a149) []) S Q=XR cf a4 a5 a6 a9 a10 a11 a12 a13 a14 a15 a17 a18 a95 a142 a149 S Q:=B4 (by kernel_rfl)
def s135:Cn:=fun cf a0 a1 S Post=>OX (A0 cf 105 [a0]) fun x70=>OX (ES .not x70) fun x71=>OX (A8 x71 false (some a1)) fun x72=>OX (A8 x71 false (A0 cf 105 [x72])) fun x73=>OX (A8 x71 false (ES .not x73)) fun x74=>OX (AU x71 (.b true) x74) fun x75=>OX (A8 x75 false (some a1)) fun x76=>OX (A8 x75 false (AK false x76)) fun x77=>OX (A8 x75 false (A4 .eql .num x77 (.n 0))) fun x78=>OX (AU x75 (.b true) x78) fun x79=>WB x79
 (Post (.AY [(.z 1),(.z 1),(.n 1)]) S)
 (OX (A0 cf 82 [a0,a1]) fun x80=>OX (A4 .lss .num x80 (.n 0)) fun x81=>WB x81
 (OX (A0 cf 110 [a0]) fun x82=>OX (A0 cf 146 [x82]) fun x83=>Post (.AY [(.z 1),x83,(.n 0)]) S)
 (OX (AK false a1) fun x84=>OX (A4 .eql .num x84 (.n 1)) fun x85=>WB x85
 (OX (Ak 1 a1 (.n 0)) fun x86=>OX (AE S 1 false x86) fun x87=>OX (A0 cf 154 [a0,x87]) fun x88=>OX (Ag x88 0) fun x89=>OX (Ag x88 1) fun x90=>OX (BA .u64 x90) fun x91=>OX (A0 cf 83 [x91]) fun x92=>Post (.AY [x89,x92,(.n 0)]) S)
 (OX (AK false a1) fun x93=>OX (A4 .sub .num x93 (.n 1)) fun x94=>OX (Ak 1 a1 x94) fun x95=>OX (AE S 1 false x95) fun x96=>OX (A0 cf 212 [x96]) fun x97=>OX (A0 cf 213 [a1,x97]) fun x98=>OX (AK false a1) fun x99=>OX (GG 1 x98 none (some x99)) fun x100=>OX (cf 1213 [a0,x97] S) fun p102=>OX (AK false a0) fun x103=>OX (AK false a1) fun x104=>OX (A4 .sub .num x103 x104) fun x105=>OX (A4 .add .num x105 (.n 1)) fun x106=>OX (Lv 1 true [.i .u32 0] p102.2 x106) fun p108=>OX (AK false x100) fun x109=>OX (A4 .sub .num x109 (.n 1)) fun x110=>OX (Ak 1 x100 x110) fun x111=>OX (AE p108.2 1 false x111) fun x112=>OX (BA .u64 x112) fun x113=>OX (AK false x100) fun x114=>OX (A4 .sub .num x114 (.n 2)) fun x115=>OX (Ak 1 x100 x115) fun x116=>OX (AE p108.2 1 false x116) fun x117=>OX (BA .u64 x117) fun x118=>OX (AK false p108.1) fun x119=>OX (A4 .sub .num x119 (.n 1)) fun x120=>W cf (.loop [] fE) (Ot .top .top .top x97 x100 p102.1 p108.1 x113 x118 x120 .top .top .top .top .top) p108.2 (Af 0 (QS cf RL (Aw [.t 4,.t 5,.t 6] Post))))))
def j135:J2 135 s135:=UE d135
abbrev o6(a0 a1 a4 a16:D):List D:=B0 27 [(0,a0),(1,a1),(4,a4),(16,a16)]
def iQ:TQ4:=fun cf a0 a1 a4 a16 S Q=>Q .ret (o6 .top .top a0 .top) S
theorem e107_r0:wp cf RQ (o6 a0 a1 a4 a16) S Q=iQ cf a0 a1 a4 a16 S Q:=B4 (by kernel_rfl)
def bY:TQ4:=fun cf a0 a1 a4 a16 S Q=>OX (AK false a1) fun x1=>OX (A4 .gtr .num x1 (.n 0)) fun x2=>WB x2
 (OX (A0 cf 135 [a0,a1]) fun x3=>OX (Ag x3 0) fun x4=>OX (Ag x3 1) fun x5=>OX (Ag x3 2) fun x6=>Q .normal (o6 a1 x5 a4 .top) S)
 (Q (.exit 0) (o6 a0 a1 a4 x2) S)
theorem e107_0:wp cf dK (B7 (o6 a0 a1 a4 a16) []) S Q=bY cf a0 a1 a4 a16 S Q:=B4 (by kernel_rfl)
def s107:Cn:=fun cf a0 a1 S Post=>OX (A0 cf 143 [a0]) fun x7=>OX (A0 cf 110 [x7]) fun x8=>OX (A0 cf 143 [a1]) fun x9=>OX (A0 cf 110 [x9]) fun x10=>W cf (.loop [] dK) (o6 x8 x10 .top .top) S (Af 0 (QS cf RQ (Aw [.t 4] Post)))
def j107:J2 107 s107:=UE d107
def s110:EV:=fun cf a0 S Post=>OX (A4 .eql .sl a0 (.z 1)) fun x1=>WB x1
 (Post (.z 1) S)
 (OX (AV 1 false []) fun x2=>OX (Be 1 false (HE 1 x2 S).1 a0 (HE 1 x2 S).2) fun p4=>Post p4.1 p4.2)
def i110:I1 110 s110:=JF d110
abbrev dZ(a0 a1 a4 a12 a13 a14:D):List D:=B0 26 [(0,a0),(1,a1),(4,a4),(12,a12),(13,a13),(14,a14)]
def kM:Mi:=fun cf a0 a1 a4 a12 a13 a14 S Q=>Q .ret (dZ .top .top (.b true) .top .top .top) S
def yy:N6 Wi dZ kM:=bK
def bE:Mi:=fun cf a0 a1 a4 a12 a13 a14 S Q=>OX (A4 .lss .num a13 a12) fun x1=>WB x1
 (OX (Ak 1 a0 a13) fun x2=>OX (AE S 1 false x2) fun x3=>OX (Ak 1 a1 a13) fun x4=>OX (AE S 1 false x4) fun x5=>OX (A4 .neq .num x3 x5) fun x6=>WB x6
 (Q .ret (dZ .top .top (.b false) .top .top .top) S)
 (OX (A4 .add .num a13 (.n 1)) fun x7=>Q .normal (dZ a0 a1 a4 a12 x7 .top) S))
 (Q (.exit 0) (dZ a0 a1 a4 a12 a13 x1) S)
def e106_0:L6 dB dZ bE:=bu
def s106:Cn:=fun cf a0 a1 S Post=>OX (AK false a0) fun x8=>OX (AK false a1) fun x9=>OX (A4 .neq .num x8 x9) fun x10=>WB x10
 (Post (.b false) S)
 (OX (AK false a0) fun x11=>W cf (.loop [] dB) (dZ a0 a1 .top x11 (.n 0) .top) S (Af 0 (QS cf Wi (Aw [.t 4] Post))))
def i106:I2 106 s106:=Oc d106
end
end Go.Proofs.YtjniafcnjbbomaaGreatDoor.DE
namespace Go.Proofs.YtjniafcnjbbomaaGreatDoor.DE.V
open Go NL
theorem Jg(S:A1)(x:D):AE S 1 false (.el [x] 0)=some x:=(rfl)
theorem BH{k:IntKind}(a b:Nat):A4 .lss .num (.i k a) (.i k b)=some (.b (decide (a<b))):=by rw[Jv];simp
theorem je{k:IntKind}(a b:Nat):A4 .geq .num (.i k a) (.i k b)=some (.b (decide (b<=a))):=by rw[Ek];simp
theorem CG{a:Nat}(h:Bd a):A4 .add .num (.i .i64 a) (.i .i64 1)=some (.i .i64 ((a+1:Nat):Int)):=by rw[EB,Bz h]
theorem HM{a b:Nat}(h:a+b<9223372036854775808):A4 .add .num (.i .i64 a) (.i .i64 b)=some (.i .i64 ((a+b:Nat):Int)):=by rw[EB,<-natCast_add,QO h]
theorem Xr{a b:Nat}(h:b<=a)(ha:a<9223372036854775808):A4 .sub .num (.i .i64 a) (.i .i64 b)=some (.i .i64 ((a-b:Nat):Int)):=by rw[Cp,show((a:Int)-b)=((a-b:Nat):Int) by omega,QO (by omega)]
theorem Ka(K:D->Prop):OX (some (.b true)) K=K (.b true):=rfl
theorem Km(K:D->Prop):OX (some (.b false)) K=K (.b false):=rfl
theorem sO{P O A C c x y:Nat}(h:O+P*c=A+C):O+P*((x+y+c)%B)+P*B*((x+y+c)/B)=A+P*x+(C+P*y):=by have h1:=mod_add_div (x+y+c) B;have h2:=congrArg (P * ·) h1;simp only[mul_add] at h2;rw[mul_assoc];omega
def J80(nl B3:Bool)(a b:List Nat)(n:Nat):Nat->List D->A1->Prop:=fun q fr S=>∃i c out a4 a5 a33,q=n-i/\i<=n/\c<=1/\List.length out=n/\CA out/\(∀j,i<=j->dg out j=0) /\
 val out+B^i*c=val (a.take i)+val (b.take i)/\S=[.box (AL out),.box [AD B3 b .ro],.box [AD nl a .ro]] /\
 fr=B0 54 [(4,a4),(5,a5),(6,.fn 221 [.bx 0 0]),(7,.fn 221 [.bx 1 0]),(8,.ar 1 2 0 n),(9,.i .u32 c),(31,.i .i64 n),(32,.i .i64 i),(33,a33)]
theorem v80(nl B3:Bool)(a b:List Nat)(ha:VN a)(hb:VN b)(la:CA a)(lb:CA b) :
  A0 (call dp) 80 [AD nl a .ro,AD B3 b .ro]=some (if BO (val a+val b) then .AY [AD false (B1 (val a+val b)) .ro,.i .i64 0] else .AY [.sl 1 true [] .ro,.i .i64 6]):=by
 have h1:=ha.1;have h2:=hb.1;apply i80 _ _ _ (by simp[A9]) (by split<;>simp[AG,A9,Bo]);have hba:Bd a.length:=by unfold Bd;omega
 have hbb:Bd b.length:=by unfold Bd;omega
 have hm:A4 .add .num (.i .i64 ((max a.length b.length:Nat):Int)) (.i .i64 1)=some (.i .i64 ((max a.length b.length+1:Nat):Int)):=CG (by unfold Bd;omega)
 have hmx:yD (.i .i64 (a.length:Int)) (.i .i64 (b.length:Int))=some (.i .i64 ((max a.length b.length:Nat):Int)):=by simp only[yD,if_true];congr 2;split<;>omega
 have mk:=fun S=>GQ (S:=S) (n:=max a.length b.length+1) (by unfold AP;omega);have hn:max a.length b.length+1<=129:=by omega
 have yN:a.length<max a.length b.length+1:=by omega
 have hlb:b.length<max a.length b.length+1:=by omega
 simp only[s80,Bh,v105 nl a hba,v105 B3 b hbb,ha,hb,decide_true,A5,Cu,Bool.not_true,EE,JD,Wr,yw,GI,Jf,Ac,v141,B2,hmx,hm,mk,dA,length_cons,length_nil];generalize max a.length b.length+1=n at *;refine AW (J80 nl B3 a b n) ?_ n _ _ ⟨0,0,_,_,_,_,by omega,by omega,by omega,length_replicate,HI n,fun j _=>JT n j,by rw[HH];simp[val],rfl,rfl⟩;rintro q fr S ⟨i,c,out,a4,a5,a33,rfl,Q2,hc,lo,hL,hz,he,rfl,rfl⟩;rw[<-Ay,e80_0];by_cases Ap:i<n
 .have l1:AA [B9.box (AL out),.box [AD B3 b .ro],.box [AD nl a .ro]] 0=some (.box [AD nl a .ro]):=rfl;have l2:AA [B9.box (AL out),.box [AD B3 b .ro],.box [AD nl a .ro]] 1=some (.box [AD B3 b .ro]):=rfl;have l3:AA [B9.box (AL out),.box [AD B3 b .ro],.box [AD nl a .ro]] 2=some (.box (AL out)):=rfl;have Er:=fun x=>Ct (x:=x) l3 (i:=i) (by omega);have ak:=H0 (id:=2) (o:=0) (n:=n) (k:=.i64) (i:=i) Ap;simp only[qw,BH,Ap,decide_true,Ka,A5,Al,SN,cons_append,nil_append,zS nl a i 0 _ l1,zS B3 b i 1 _ l2,v142 (C0 la i) (C0 lb i) hc,CX,getElem?_cons_zero,getElem?_cons_succ,ak,zero_add,Er,CG (show Bd i by unfold Bd;omega),Ao];refine⟨n-(i+1),by omega,i+1,_,out.set i _,_,_,_,rfl,by omega,?_,by simpa using lo,En hL (mod_lt _ CU),?_,?_,rfl,rfl⟩
  .have:=C0 la i;have:=C0 lb i;simp only[B] at *;omega
  .intro j hj;rw[EK (by omega)];exact hz j (by omega)
  .rw[CK,CK,Kk _ (by omega) (hz i (le_refl i)),pow_succ];exact sO he
 .have:i=n:=by omega
  subst this
  have hc0:c=0:=by
   have e1:=CY la;have e2:=CY lb;rw[Ce (by omega),Ce (by omega)] at he;obtain⟨p,rfl⟩:∃p,i=p+1:=⟨i-1,by omega⟩
   have e3:B^a.length<=B^p:=pow_le_pow_right CU (by omega);have e4:B^b.length<=B^p:=pow_le_pow_right CU (by omega);rw[pow_succ] at he;have:c=0\/c=1:=by omega
   rcases this with h|h
   .exact h
   .subst h;have hp:=Bp p;generalize B^p=P at *;simp only[B] at he;omega
  subst hc0;have l3:AA [B9.box (AL out),.box [AD B3 b .ro],.box [AD nl a .ro]] 2=some (.box (AL out)):=rfl;have hf:=Jw l3;rw[lo] at hf
  have hv:val out=val a+val b:=by rw[Ce (by omega),Ce (by omega)] at he;simpa using he
  have YJ:Bd out.length:=by unfold Bd;omega
  have h134:=v134 false out hL YJ;rw[hv] at h134;simp only[qw,BH,Ap,decide_false,Km,A5,Ac,BC,Av,Ad,e80_r0,uM,hf,h134];by_cases hq:BO (val a+val b)
  .simp only[hq,if_true,A5,CX,getElem?_cons_zero,getElem?_cons_succ];simp
  .simp only[hq,if_false,A5,CX,getElem?_cons_zero,getElem?_cons_succ];simp[strip]
theorem qJ{P O A C c x y d w:Nat}(h:O+C=A+P*c)(hd:d+y+c=x+B*w):O+P*d+(C+P*y)=A+P*x+P*B*w:=by have h2:=congrArg (P * ·) hd;simp only[mul_add] at h2;rw[mul_assoc];omega
def J161(nl B3:Bool)(a b:List Nat)(n:Nat):Nat->List D->A1->Prop:=fun q fr S=>∃i c out a4 a5 a33,q=n-i/\i<=n/\c<=1/\List.length out=n/\CA out/\(∀j,i<=j->dg out j=0) /\
 val out+val (b.take i)=val (a.take i)+B^i*c/\S=[.box (AL out),.box [AD B3 b .ro],.box [AD nl a .ro]] /\
 fr=B0 54 [(4,a4),(5,a5),(6,.fn 221 [.bx 0 0]),(7,.fn 221 [.bx 1 0]),(8,.ar 1 2 0 n),(9,.i .u32 c),(33,.i .i64 n),(34,.i .i64 i),(35,a33)]
theorem tJ(x y:Nat):decide (bS x y<0)=decide (x<y):=by
 unfold bS;by_cases h:x<y
 .simp[h]
 .rw[if_neg h];by_cases h2:x=y<;>simp[h,h2]
theorem NO{a b:List Nat}(la:CA a)(hb:NL.Can b)(h:val b<=val a):b.length<=a.length:=by
 rcases lt_or_ge a.length b.length with q|q
 .have:=dY la hb q;omega
 .exact q
theorem v161(nl B3:Bool)(a b:List Nat)(ha:VN a)(hb:VN b)(la:CA a)(lb:CA b) :
  A0 (call dp) 161 [AD nl a .ro,AD B3 b .ro]=some (if val b<=val a then .AY [AD false (B1 (val a-val b)) .ro,.b true] else .AY [.sl 1 true [] .ro,.b false]):=by
 have h1:=ha.1;have h2:=hb.1;apply i161 _ _ _ (by simp[A9]) (by split<;>simp[AG,A9,Bo]);have hba:Bd a.length:=by unfold Bd;omega
 have hbb:Bd b.length:=by unfold Bd;omega
 have mk:=fun S=>GQ (S:=S) (n:=a.length) (by unfold AP;omega);have h0:A4 .lss .num (.i .i64 (bS (val a) (val b))) (.i .i64 0)=some (.b (decide (val a<val b))):=by rw[Jv,tJ]
 simp only[s161,Bh,v105 nl a hba,v105 B3 b hbb,ha,hb,decide_true,A5,Cu,Bool.not_true,EE,GI,v82 nl B3 a b ha hb la lb,h0];by_cases hle:val b<=val a
 .have hnlt:¬val a<val b:=by omega
  have hlen:b.length<=a.length:=NO la (hb.can lb) hle;simp only[hle,hnlt,if_true,decide_false,Ac,v141,A5,B2,mk,dA,length_cons,length_nil];refine AW (J161 nl B3 a b a.length) ?_ a.length _ _ ⟨0,0,_,_,_,_,by omega,by omega,by omega,length_replicate,HI _,fun j _=>JT _ j,by rw[HH];simp[val],rfl,rfl⟩;rintro q fr S ⟨i,c,out,a4,a5,a33,rfl,Q2,hc,lo,hL,hz,he,rfl,rfl⟩;rw[<-Ay,e161_0];have l1:AA [B9.box (AL out),.box [AD B3 b .ro],.box [AD nl a .ro]] 0=some (.box [AD nl a .ro]):=rfl;have l2:AA [B9.box (AL out),.box [AD B3 b .ro],.box [AD nl a .ro]] 1=some (.box [AD B3 b .ro]):=rfl;have l3:AA [B9.box (AL out),.box [AD B3 b .ro],.box [AD nl a .ro]] 2=some (.box (AL out)):=rfl;by_cases Ap:i<a.length
  .have Er:=fun x=>Ct (x:=x) l3 (i:=i) (by omega);have ak:=H0 (id:=2) (o:=0) (n:=a.length) (k:=.i64) (i:=i) Ap;simp only[cg,BH,Ap,decide_true,Ka,A5,Al,SN,cons_append,nil_append,zS nl a i 0 _ l1,zS B3 b i 1 _ l2,v243 (C0 la i) (C0 lb i) hc,CX,getElem?_cons_zero,getElem?_cons_succ,ak,zero_add,Er,CG (show Bd i by unfold Bd;omega),Ao];refine⟨a.length-(i+1),by omega,i+1,_,out.set i _,_,_,_,rfl,by omega,Xh _ _ _,by simpa using lo,En hL (Me _ _ _),?_,?_,rfl,rfl⟩
   .intro j hj;rw[EK (by omega)];exact hz j (by omega)
   .rw[CK,CK,Kk _ (by omega) (hz i (le_refl i)),pow_succ];exact qJ he (RY (C0 la i) (C0 lb i) hc)
  .have:i=a.length:=by omega
   subst this
   have hv:val out=val a-val b:=by
    rw[Ce hlen,Ce (le_refl _)] at he;have e1:=CY hL;rw[lo] at e1;have:c=0\/c=1:=by omega
    rcases this with h|h
    .subst h;omega
    .subst h;omega
   have hf:=Jw l3;rw[lo] at hf;have h146:=v146 false out hL (by unfold Bd;omega);rw[hv] at h146;simp only[cg,BH,Ap,decide_false,Km,A5,Ac,BC,Av,Ad,e161_r0,iT,hf,h146];simp
 .have Ap:val a<val b:=by omega
  simp only[hle,Ap,if_false,decide_true,Al];rfl
theorem ni{x y o c:Nat}(hx:x<B)(hy:y<B)(ho:o<B)(hc:c<B):x*y+o+c<B*B:=by have h1:x*y<=(B-1)*(B-1):=mul_le_mul (by omega) (by omega);simp only[B] at *;omega
theorem rC{P O O' A X y o c t I C k:Nat}(h:O+P*c=A+I*X*C)(hO:O'+P*o=O+P*(t%B))(ht:t=X*y+o+c)(hP:P=I*k):O'+P*B*(t/B)=A+I*X*(C+k*y):=by
 have h1:=mod_add_div t B;have h2:=congrArg (P * ·) h1;simp only[mul_add] at h2;rw[mul_assoc];have h3:P*t=P*(X*y)+P*o+P*c:=by rw[ht,mul_add,mul_add]
 have h4:I*X*(C+k*y)=I*X*C+P*(X*y):=by rw[hP,mul_add];congr 1;generalize C=z at *;rw[mul_assoc,mul_assoc,<-mul_assoc X,mul_comm X k,mul_assoc k]
 omega
def J70(nl B3:Bool)(a b:List Nat)(n:Nat):Nat->List D->A1->Prop:=fun q fr S=>∃i out a4 a5 a7 a8 a28 a31 a32 a33,q=a.length-i/\i<=a.length/\List.length out=n/\CA out/\(∀j,i+b.length<=j->dg out j=0) /\
 val out=val (a.take i)*val b/\S=[.box (AL out)] /\
 fr=B0 79 [(0,AD nl a .ro),(1,AD B3 b .ro),(4,a4),(5,a5),(6,.ar 1 0 0 n),(7,a7),(8,a8),(26,.i .i64 a.length),(27,.i .i64 i),(28,a28),(31,a31),(32,a32),(33,a33)]
def K70(nl B3:Bool)(a b:List Nat)(n i:Nat):Nat->List D->A1->Prop:=fun q fr S=>∃j out c a4 a5 a28 a33,q=b.length-j/\j<=b.length/\c<B/\List.length out=n/\CA out/\(∀j,i+b.length<=j->dg out j=0) /\
 val out+B^(i+j)*c=val (a.take i)*val b+B^i*dg a i*val (b.take j)/\S=[.box (AL out)] /\
 fr=B0 79 [(0,AD nl a .ro),(1,AD B3 b .ro),(4,a4),(5,a5),(6,.ar 1 0 0 n),(7,.i .i64 i),(8,.i .u64 c),(26,.i .i64 a.length),(27,.i .i64 i),(28,a28),(31,.i .i64 b.length),(32,.i .i64 j),(33,a33)]
theorem v70(nl B3:Bool)(a b:List Nat)(ha:VN a)(hb:VN b)(la:CA a)(lb:CA b) :
  A0 (call dp) 70 [AD nl a .ro,AD B3 b .ro]=some (if BO (val a*val b) then .AY [AD false (B1 (val a*val b)) .ro,.i .i64 0] else .AY [.sl 1 true [] .ro,.i .i64 6]):=by
 have h1:=ha.1;have h2:=hb.1;apply i70 _ _ _ (by simp[A9]) (by split<;>simp[AG,A9,Bo]);have hba:Bd a.length:=by unfold Bd;omega
 have hbb:Bd b.length:=by unfold Bd;omega
 have mk:=fun S=>GQ (S:=S) (n:=a.length+b.length) (by unfold AP;omega);simp only[s70,Bh,v105 nl a hba,v105 B3 b hbb,ha,hb,decide_true,A5,Cu,Bool.not_true,EE,GI,Ac,B2,HM (show a.length+b.length<9223372036854775808 by omega),mk,length_nil];generalize hn:a.length+b.length=n at *;refine AW (J70 nl B3 a b n) ?_ a.length _ _ ⟨0,_,_,_,_,_,_,_,_,_,by omega,by omega,length_replicate,HI n,fun j _=>JT n j,by rw[HH];simp[val],rfl,rfl⟩;rintro q fr S ⟨i,out,a4,a5,a7,a8,a28,a31,a32,a33,rfl,Q2,lo,hL,hz,he,rfl,rfl⟩;rw[<-Ay,e70_1];by_cases Ap:i<a.length
 .simp only[sF,BH,Ap,decide_true,Ka,Al,B2,A5];refine AW (K70 nl B3 a b n i) ?_ b.length _ _ ⟨0,out,0,_,_,_,_,by omega,by omega,by decide,lo,hL,hz,by rw[he];simp[val],rfl,rfl⟩;rintro q fr S ⟨j,out,c,a4,a5,a28,a33,rfl,hjn,hc,lo,hL,hz,he,rfl,rfl⟩;rw[<-Ay,e70_0];have l0:AA [B9.box (AL out)] 0=some (.box (AL out)):=rfl;by_cases hjl:j<b.length
  .have hx:=C0 la i;have hy:=C0 lb j;have ho:=C0 hL (i+j);have hbd:=ni hx hy ho hc;have hBB:B*B=18446744073709551616:=rfl
   have hq:(dg a i*dg b j+dg out (i+j)+c)/B<B:=by rw[div_lt_iff_lt_mul CU];exact hbd
   simp only[rA,BH,hjl,decide_true,Ka,A5,Al,Bt Ap,Bt hjl,Jg,CJ hx,CJ hy,pj (show dg a i*dg b j<18446744073709551616 by omega),
    HM (show i+j<9223372036854775808 by omega),H0 (show i+j<n by omega),zero_add,Gq l0 (show i+j<out.length by omega),CJ ho,VE (show dg a i*dg b j+dg out (i+j)<18446744073709551616 by omega),VE (show dg a i*dg b j+dg out (i+j)+c<18446744073709551616 by omega),
    Kz,Zy,Ct l0 (show i+j<out.length by omega),CG (show Bd j by unfold Bd;omega),Ao]
   refine⟨b.length-(j+1),by omega,j+1,out.set (i+j) _,_,_,_,_,_,rfl,by omega,hq,by simpa using lo,En hL (mod_lt _ CU),?_,?_,rfl,rfl⟩
   .intro k hk;rw[EK (by omega)];exact hz k hk
   .rw[CK,<-add_assoc,pow_succ];exact rC he (Jx _ (by omega)) rfl (pow_add _ _ _)
  .have:j=b.length:=by omega
   subst this
   simp only[rA,BH,hjl,decide_false,Km,Ac,BC,Av,Ad,e70_r0,ur,B2,A5,HM (show i+b.length<9223372036854775808 by omega),H0 (show i+b.length<n by omega),zero_add,O4 hc,
    Ct l0 (show i+b.length<out.length by omega),GP,e70_r1,rG,CG (show Bd i by unfold Bd;omega),Ao]
   refine⟨a.length-(i+1),by omega,i+1,out.set (i+b.length) c,_,_,_,_,_,_,_,_,rfl,by omega,by simpa using lo,En hL hc,?_,?_,rfl,rfl⟩
   .intro k hk;rw[EK (by omega)];exact hz k (by omega)
   .rw[Kk _ (by omega) (hz _ (le_refl _)),he,CK,Ce (le_refl _),add_mul]
 .have:i=a.length:=by omega
  subst this;have l0:AA [B9.box (AL out)] 0=some (.box (AL out)):=rfl;have hf:=Jw l0;rw[lo] at hf;rw[Ce (le_refl _)] at he;have h134:=v134 false out hL (by unfold Bd;omega);rw[he] at h134;simp only[sF,BH,Ap,decide_false,Km,A5,Ac,BC,Av,Ad,e70_r2,px,hf,h134];by_cases hq:BO (val a*val b)
  .simp only[hq,if_true,A5,CX,getElem?_cons_zero,getElem?_cons_succ];simp
  .simp only[hq,if_false,A5,CX,getElem?_cons_zero,getElem?_cons_succ];simp[strip]
def J154(nl:Bool)(a:List Nat)(d:Nat):Nat->List D->A1->Prop:=fun q fr S=>∃out a4 a5 a16,q<=a.length/\List.length out=a.length/\CA out/\(∀j,j<q->dg out j=0) /\
 val out=B^q*(val (a.drop q)/d)/\S=[.box (AL out)] /\
 fr=B0 43 [(0,AD nl a .ro),(1,.i .u32 d),(4,a4),(5,a5),(6,.ar 1 0 0 a.length),(7,.i .u64 (val (a.drop q)%d:Nat)),(8,.i .i64 ((q:Int)-1)),(16,a16)]
theorem v154(nl:Bool)(a:List Nat)(d:Nat)(la:CA a)(hb:a.length<=1000)(hd:0<d)(hdB:d<B) :
  A0 (call dp) 154 [AD nl a .ro,.i .u32 d]=some (.AY [AD false (B1 (val a/d)) .ro,.i .u32 (val a%d:Nat)]):=by
 apply i154 _ _ _ (by simp[A9]) (by simp[AG,A9]);have mk:=fun S=>GQ (S:=S) (n:=a.length) (by unfold AP;omega);simp only[s154,Bh,Cq,B2,A5,mk,Cp,length_nil];rw[wrap64 ⟨by omega,by omega⟩];refine AW (J154 nl a d) ?_ a.length _ _ ⟨_,_,_,_,le_refl _,length_replicate,HI _,fun j _=>JT _ j,by rw[HH,List.drop_length];simp[val],rfl,by simp only[List.drop_length,val,Nat.zero_mod];rfl⟩;rintro q fr S ⟨out,a4,a5,a16,hq,lo,hL,hz,he,rfl,rfl⟩;rw[<-Ay,e154_0];have l0:AA [B9.box (AL out)] 0=some (.box (AL out)):=rfl;by_cases h0:q=0
 .subst h0;rw[drop_zero] at he ⊢;simp only[Nat.pow_zero,one_mul] at he;have hf:=Jw l0;rw[lo] at hf;have h146:=v146 false out hL (by unfold Bd;omega);rw[he] at h146;have hr:val a%d<B:=lt_trans (mod_lt _ hd) hdB;have hg:A4 .geq .num (.i .i64 (((0:Nat):Int)-1)) (.i .i64 0)=some (.b false):=by rw[Ek];rfl
  simp only[dH,hg,A5,Ac,BC,Av,Ad,zF,iI,hf,h146,O4 hr];simp
 .obtain⟨k,rfl⟩:∃k,q=k+1:=⟨q-1,by omega⟩
  have e1:((k+1:Nat):Int)-1=k:=by omega
  have hka:k<a.length:=by omega
  have hg:A4 .geq .num (.i .i64 (k:Int)) (.i .i64 0)=some (.b true):=by rw[Ek];simp
  have hx:=C0 la k;have hr:val (a.drop (k+1))%d<d:=mod_lt _ hd;have hrB:val (a.drop (k+1))%d<B:=lt_trans hr hdB;have hq:=o8 hr hx;have hvd:val (a.drop k)=dg a k+B*val (a.drop (k+1)):=by rw[MY hka];rfl
  have hs:=ZF (X:=val (a.drop (k+1))) (d:=d) (x:=dg a k) hd;rw[<-hvd] at hs
  have Ap:val (a.drop (k+1))%d*B+dg a k<18446744073709551616:=by generalize val (a.drop (k+1))%d=r at *;simp only[B] at *;omega
  have hw:IntKind.i64.wrap ((k:Int)-1)=(k:Int)-1:=wrap64 ⟨by omega,by omega⟩;simp only[e1,dH,hg,A5,Al,jt hrB,Bt hka,Jg,CJ hx,orB hrB hx,CJ hdB,quo64 hd Ap,O4 hq,rem64 hd,H0 hka,zero_add,Ct l0 (show k<out.length by omega),Cp,hw,Ao];refine⟨k,by omega,out.set k _,a4,a5,.top,by omega,by simpa using lo,En hL hq,?_,?_,rfl,?_⟩
  .intro j hj;rw[EK (by omega)];exact hz j (by omega)
  .rw[Kk _ (by omega) (hz k (by omega)),he,hs.1,mul_add,pow_succ,mul_assoc];omega
  .rw[hs.2]
theorem Xw(nl:Bool)(l:List Nat)(o o':JB):A4 .eql .sl (AD nl l o) (.sl 1 true [] o')=some (.b nl):=(rfl)
theorem pW(nl:Bool)(a:List Nat)(hn:nl=true->a=[])(hb:a.length<=1000):A0 (call dp) 110 [AD nl a .ro]=some (AD nl a .ro):=by
 apply i110 _ _ (by simp[A9]) (by simp);simp only[s110,Bh,Xw,Oi,KN];cases nl with
 |true=>simp[hn rfl,AD];rfl
 |false=>
  have h:(List.map (fun n:Nat=>[D.i .u32 (n:Int)]) a).length<=AP:=by rw[List.length_map];unfold AP;omega
  have e:=MB (k:=1) (n:=false) (n':=false) (ys:=List.map (fun n:Nat=>[D.i .u32 (n:Int)]) a) (o:=.ro) (S:=[]) h;have e':Be 1 false (D.sl 1 false [] .G4) (AD false a .ro) []=_:=e;simp only[false_eq_true,if_false,H8,A5,Ru,e',Ac];by_cases ha:a=[]
  .subst ha;rfl
  .rw[if_neg (by simpa using ha)];rfl
def J106(nl B3:Bool)(a b:List Nat):Nat->List D->A1->Prop:=fun q fr S=>∃i a4 a14,q=b.length-i/\i<=b.length/\a.take i=b.take i/\S=[] /\
 fr=B0 26 [(0,AD nl a .ro),(1,AD B3 b .ro),(4,a4),(12,.i .i64 b.length),(13,.i .i64 i),(14,a14)]
theorem v106(nl B3:Bool)(a b:List Nat)(ha:Bd a.length):A0 (call dp) 106 [AD nl a .ro,AD B3 b .ro]=some (.b (decide (a=b))):=by
 apply i106 _ _ _ (by simp[A9]) rfl;simp only[s106,Bh,B2,A5,JA];by_cases hl:a.length=b.length
 .have ab:(a.length:Int)=b.length:=by omega
  have hd:(!decide ((a.length:Int)=b.length))=false:=by simp[ab]
  simp only[hd,Ac,ab,A5];refine AW (J106 nl B3 a b) ?_ b.length _ _ ⟨0,.top,.top,by omega,by omega,by simp,rfl,rfl⟩;rintro q fr S ⟨i,a4,a14,rfl,hi,he,rfl,rfl⟩;rw[<-Ay,e106_0];by_cases Ap:i<b.length
  .simp only[bE,BH,Ap,decide_true,Ka,A5,Al,Bt Ap,Bt (show i<a.length by omega),Jg,JA];by_cases hd:dg a i=dg b i
   .have:(!decide (((dg a i:Nat):Int)=(dg b i:Nat)))=false:=by simp[hd]
    simp only[this,Ac,CG (show Bd i by unfold Bd at *;omega),A5,Ao];exact⟨b.length-(i+1),by omega,i+1,a4,.top,rfl,by omega,Md he (Jk (by omega)) (by rw[hd];exact Jk Ap),rfl,rfl⟩
   .have h2:¬((dg a i:Nat):Int)=(dg b i:Nat):=by omega
    have:(!decide (((dg a i:Nat):Int)=(dg b i:Nat)))=true:=by simp[h2]
    have CF:¬a=b:=by rintro rfl;exact hd rfl
    simp[this,CF]
  .have:a=b:=Mc he (by omega) (by omega);subst this;simp only[bE,BH,Ap,decide_false,Km,Ac,BC,Av,Ad,yy,kM];simp
 .have ab:¬(a.length:Int)=b.length:=by omega
  have hd:(!decide ((a.length:Int)=b.length))=true:=by simp[ab]
  have CF:¬a=b:=by rintro rfl;exact hl rfl
  simp only[hd,Al,CF,decide_false,KS]
theorem Ry{l:List Nat}(h:CA l){k:Nat}(hk:k<=l.length)(hv:val l<B^k):val (l.take k)=val l:=by have e:=NJ l k hk;have d:=Ov h k;rw[div_eq_of_lt hv] at d;rw[d] at e;omega
def J213(nl:Bool)(a:List Nat)(s:Nat)(S:A1):Nat->List D->A1->Prop:=fun q fr S'=>∃i out a4 a15,q=a.length-i/\i<=a.length/\List.length out=a.length+1/\CA out/\(∀j,i<j->dg out j=0)/\dg out i<2^s /\
 val out=val (a.take i)*2^s/\S'=.box (AL out)::S /\
 fr=B0 41 [(0,AD nl a .ro),(1,.i .i64 s),(4,a4),(5,.ar 1 S.length 0 (a.length+1)),(13,.i .i64 a.length),(14,.i .i64 i),(15,a15)]
theorem oH{P O O1 O2 c w V x t:Nat}(h:O=V*t)(h1:O1+P*c=O+P*(c+w%B))(h2:O2=O1+P*B*(w/B))(hw:w=x*t):O2=(V+P*x)*t:=by have e1:=mod_add_div w B;have e2:=congrArg (P * ·) e1;simp only[mul_add] at e2 h1;rw[mul_assoc] at h2;rw[add_mul,mul_assoc,<-hw];omega
theorem Uv(nl:Bool)(a:List Nat)(s:Nat)(S:A1)(la:CA a)(hb:a.length<=1000)(hs:s<32)(Q:Ex->List D->A1->Prop)
  (hQ:∀out a4 a13 a14 a15,List.length out=a.length+1->CA out->val out=val a*2^s->Q .normal (B0 41 [(0,AD nl a .ro),(1,.i .i64 s),(4,a4),(5,.ar 1 S.length 0 (a.length+1)),(13,a13),(14,a14),(15,a15)]) (.box (AL out)::S)) :
  W (call dp) (.loop [] Xk) (B0 41 [(0,AD nl a .ro),(1,.i .i64 s),(4,.top),(5,.ar 1 S.length 0 (a.length+1)),(13,.i .i64 a.length),(14,.i .i64 0),(15,.top)]) (.box (AL (replicate (a.length+1) 0))::S) (Af 0 Q):=by
 have hps:=two_pow_pos s;refine AW (J213 nl a s S) ?_ a.length _ _ ⟨0,_,.top,.top,by omega,by omega,length_replicate,HI _,fun j _=>JT _ j,by rw[JT];exact hps,by rw[HH];simp[val],rfl,rfl⟩;rintro q fr S' ⟨i,out,a4,a15,rfl,hi,lo,hL,hz,hc,he,rfl,rfl⟩;rw[<-Ay,e213_0];by_cases Ap:i<a.length
 .have hx:=C0 la i
  have hp32:2^s<=2147483648:=by have:=pow_le_pow_right (show 0<2 by decide) (show s<=31 by omega);simpa using this
  have hw:dg a i*2^s<18446744073709551616:=by have:=mul_le_mul (le_of_lt hx) hp32;simp only[B] at this;omega
  have hhi:=left_hi (s:=s) hx;have hhB:dg a i*2^s/B<B:=by simp only[B] at *;omega
  have hor:=yW (x:=dg a i) hs hc;have l0:AA (B9.box (AL out)::S) S.length=some (.box (AL out)):=Aj _ _;have l1:AA (B9.box (AL (out.set i (dg out i+dg a i*2^s%B)))::S) S.length=some (.box (AL (out.set i (dg out i+dg a i*2^s%B)))):=Aj _ _;have ho:=or32 (C0 hL i) (mod_lt (dg a i*2^s) CU);rw[hor.1] at ho
  simp only[dT,BH,Ap,decide_true,Ka,A5,Al,Bt Ap,Jg,CJ hx,jM (k':=.i64) (show s<=64 by omega) hw,H0 (show i<a.length+1 by omega),zero_add,
   Gq l0 (show i<out.length by omega),Kz,ho,Ct l0 (show i<out.length by omega),ZH,CG (show Bd i by unfold Bd;omega),Zy,H0 (show i+1<a.length+1 by omega),mod_eq_of_lt hhB,
   Ct l1 (show i+1<(out.set i (dg out i+dg a i*2^s%B)).length by rw[length_set];omega),Ao]
  refine⟨a.length-(i+1),by omega,i+1,(out.set i (dg out i+dg a i*2^s%B)).set (i+1) (dg a i*2^s/B),a4,.top,rfl,by omega,by simpa using lo,En (En hL hor.2) hhB,?_,?_,?_,rfl,rfl⟩
  .intro j hj;rw[EK (by omega),EK (by omega)];exact hz j (by omega)
  .rw[sv (by rw[length_set];omega)];exact hhi
  .rw[CK];refine oH he (Jx _ (by omega)) ?_ rfl;rw[Kk _ (by rw[length_set];omega) (by rw[EK (by omega)];exact hz _ (by omega)),pow_succ]
 .have:i=a.length:=by omega
  subst this;rw[Ce (le_refl _)] at he;simp only[dT,BH,Ap,decide_false,Km,Ac,BC,Av];exact hQ out a4 _ _ _ lo hL he
theorem v213(nl:Bool)(a:List Nat)(s:Nat)(la:CA a)(hb:a.length<=1000)(hs:s<32) :
  ∃out,A0 (call dp) 213 [AD nl a .ro,.i .i64 s]=some (AD false out .ro)/\out.length=a.length+1/\CA out/\val out=val a*2^s:=by
 obtain⟨r,e,out,rfl,h1,h2,h3⟩:=j213 (AD nl a .ro) (.i .i64 s) (fun d=>∃out,d=AD false out .ro/\out.length=a.length+1/\CA out/\val out=val a*2^s) (by simp[A9]) (by rintro _ ⟨out,rfl,_⟩;simp) (by
  simp only[s213,Bh,Cq,B2,A5,CG (show Bd a.length by unfold Bd;omega),GQ (S:=[]) (n:=a.length+1) (show a.length+1<=AP by unfold AP;omega)];refine Uv nl a s [] la hb hs _ ?_;intro out a4 a13 a14 a15 lo hL hv;have hf:=Jw (Aj (B9.box (AL out)) []);rw[lo] at hf;simp only[Ad,yz,kK,hf,A5];simp
  exact⟨out,rfl,lo,hL,hv⟩)
 exact⟨out,e,h1,h2,h3⟩
theorem v1213(nl:Bool)(a:List Nat)(s:Nat)(S:A1)(la:CA a)(hb:a.length<=1000)(hs:s<32) :
  ∃out,call dp 1213 [AD nl a .ro,.i .i64 s] S=some (.ar 1 S.length 0 (a.length+1),.box (AL out)::S)/\out.length=a.length+1/\CA out/\val out=val a*2^s:=by
 obtain⟨r,S',e,out,rfl,rfl,h1,h2,h3⟩:=f1213 (AD nl a .ro) (.i .i64 s) S (fun d S'=>∃out,d=.ar 1 S.length 0 (a.length+1)/\S'=.box (AL out)::S/\out.length=a.length+1/\CA out/\val out=val a*2^s) (by
  simp only[vN,B2,A5,CG (show Bd a.length by unfold Bd;omega),GQ (S:=S) (n:=a.length+1) (show a.length+1<=AP by unfold AP;omega)];refine Uv nl a s S la hb hs _ ?_;intro out a4 a13 a14 a15 lo hL hv;simp only[Ad,xA,aF];simp
  exact⟨out,rfl,lo,hL,hv⟩)
 exact⟨out,e,h1,h2,h3⟩
def J216(nl:Bool)(a:List Nat)(s:Nat):Nat->List D->A1->Prop:=fun q fr S'=>∃i out a4 a14,q=a.length-i/\i<=a.length/\List.length out=a.length/\CA out/\(∀j,j<i->dg out j=val a/2^s/B^j%B) /\
 S'=[.box (AL out)] /\
 fr=B0 44 [(0,AD nl a .ro),(1,.i .i64 s),(4,a4),(5,.ar 1 0 0 a.length),(12,.i .i64 a.length),(13,.i .i64 i),(14,a14)]
theorem v216(nl:Bool)(a:List Nat)(s:Nat)(la:CA a)(hb:a.length<=1000)(hs:s<32) :
  ∃out,A0 (call dp) 216 [AD nl a .ro,.i .i64 s]=some (AD false out .ro)/\out.length=a.length/\CA out/\val out=val a/2^s:=by
 obtain⟨r,e,out,rfl,h1,h2,h3⟩:=j216 (AD nl a .ro) (.i .i64 s) (fun d=>∃out,d=AD false out .ro/\out.length=a.length/\CA out/\val out=val a/2^s) (by simp[A9]) (by rintro _ ⟨out,rfl,_⟩;simp) (by
  simp only[s216,Bh,Cq,B2,A5,GQ (S:=[]) (n:=a.length) (show a.length<=AP by unfold AP;omega),length_nil];refine AW (J216 nl a s) ?_ a.length _ _ ⟨0,_,.top,.top,by omega,by omega,length_replicate,HI _,fun j h=>by omega,rfl,rfl⟩;rintro q fr S' ⟨i,out,a4,a14,rfl,hi,lo,hL,hd,rfl,rfl⟩;rw[<-Ay,e216_0];have l0:AA [B9.box (AL out)] 0=some (.box (AL out)):=rfl;by_cases Ap:i<a.length
  .have hx:=C0 la i;have hy:=C0 la (i+1);have hr:=wM la hs Ap;have Er:∀x,Ax [B9.box (AL out)] 1 false (.bx 0 i) (.i .u32 (x:Nat))=some [.box (AL (out.set i x))]:=fun x=>Ct (x:=x) l0 (show i<out.length by omega)
   have fin:∃m',m'<a.length-i/\J216 nl a s m' (B0 44 [(0,AD nl a .ro),(1,.i .i64 s),(4,a4),(5,.ar 1 0 0 a.length),(12,.i .i64 a.length),(13,.i .i64 ((i+1:Nat):Int)),(14,.top)]) [.box (AL (out.set i ((dg a i+dg a (i+1)*B)/2^s%B)))]:=by
    refine⟨a.length-(i+1),by omega,i+1,_,a4,.top,rfl,by omega,by simpa using lo,En hL (mod_lt _ CU),?_,rfl,rfl⟩;intro j hj;by_cases hji:j=i
    .subst hji;rw[sv (by omega),hr]
    .rw[EK (by omega)];exact hd j (by omega)
   have hor:=orB hy hx;rw[show dg a (i+1)*B+dg a i=dg a i+dg a (i+1)*B by omega] at hor
   have hor':A4 .or .num (.i .u64 (dg a i:Nat)) (.i .u64 ((dg a (i+1)*B:Nat):Int))=some (.i .u64 ((dg a i+dg a (i+1)*B:Nat):Int)):=by rw[or64 (by simp only[B] at hx;omega) (by simp only[B] at hy ⊢;omega),gH,bh (s:=32) hx]
   have hsh:∀v:Nat,A4 .shr .num (.i .u64 v) (.i .i64 s)=some (.i .u64 ((v/2^s:Nat):Int)):=fun v=>LC (k:=.u64) (k':=.i64) (v:=v) (s:=s) (by simp only[IntKind.bits];omega);by_cases YB:i+1<a.length
   .simp only[XM,jn,BH,Ap,YB,decide_true,Ka,A5,Al,Bt Ap,Bt YB,Jg,CJ hx,CJ hy,CG (show Bd i by unfold Bd;omega),B2,jt hy,hor',hsh,Kz,H0 Ap,zero_add,Er,Ao];exact fin
   .have hz:dg a (i+1)=0:=Q7 (by omega);rw[hz] at fin;simp only[Nat.zero_mul,add_zero] at fin;simp only[XM,jn,BH,Ap,YB,decide_true,decide_false,Ka,Km,A5,Al,Ac,Bt Ap,Jg,CJ hx,CG (show Bd i by unfold Bd;omega),B2,hsh,Kz,H0 Ap,zero_add,Er,Ao];exact fin
  .have:i=a.length:=by omega
   subst this;have hf:=Jw l0;rw[lo] at hf
   have hv:val out=val a/2^s:=by refine bU ?_ (fun j hj=>hd j (by omega));have:=CY la;rw[lo];exact lt_of_le_of_lt (div_le_self _ _) this
   simp only[XM,jn,BH,Ap,decide_false,Km,Ac,BC,Av,Ad,zg,jy,hf,A5];simp
   exact⟨out,rfl,lo,hL,hv⟩)
 exact⟨out,e,h1,h2,h3⟩
theorem HG{Z:Type}(x y:Z):∀(S:List Z) (id:Nat),sset (sset S id x) id y=sset S id y
 |[],id=>rfl
 |e::S,id=>by
  by_cases h:id=S.length
  .simp[sset,h]
  .have h2:¬id=(sset S id x).length:=by rw[BR];exact h
   simp[sset,h,h2,HG x y S id]
theorem Pl{Z:Type}{x:Z}:∀{S:List Z} {id:Nat},AA S id=some x->sset S id x=S
 |[],id,h=>by cases h
 |e::S,id,h=>by
  by_cases h1:id=S.length
  .simp[AA,h1] at h;simp[sset,h1,h]
  .simp[AA,h1] at h;simp[sset,h1,Pl h]
theorem AAJ(O:List Nat)(k n:Nat):O=O.take k++((O.drop k).take n++O.drop (k+n)):=by rw[<-drop_drop,take_append_drop,take_append_drop]
theorem kg{O U:List Nat}{k n:Nat}(h1:O.take k=U.take k)(h2:O.drop (k+n)=U.drop (k+n))(lo:O.length=U.length)(hk:k+n<=U.length){X Y:Nat}(h:val O+B^k*X=val U+B^k*Y) :
  val ((O.drop k).take n)+X=val ((U.drop k).take n)+Y:=by
 have e1:=congrArg val (AAJ O k n);have e2:=congrArg val (AAJ U k n);rw[BZ,BZ,h1,h2] at e1;rw[BZ,BZ] at e2;simp only[length_take,List.length_drop,min_eq_left (show k<=U.length by omega),min_eq_left (show n<=O.length-k by omega),min_eq_left (show n<=U.length-k by omega)] at e1 e2;rw[e1,e2] at h
 have:B^k*(val ((O.drop k).take n)+X)=B^k*(val ((U.drop k).take n)+Y):=by simp only[mul_add] at h ⊢;omega
 exact Nat.eq_of_mul_eq_mul_left (Bp k) this
theorem K4{l:List Nat}{i k x:Nat}(h:k<=i):(l.set i x).take k=l.take k:=by rw[List.take_set,List.set_eq_of_length_le (by rw[length_take];omega)]
theorem K1{l:List Nat}{i k x:Nat}(h:i<k):(l.set i x).drop k=l.drop k:=List.drop_set_of_lt h
theorem sr{P O O' A c b q y t old new b' U D k:Nat}(h:O+A*(q*D)=U+P*(b+c))(hO:O'+P*old=O+P*new)(hn:new+t%B+b=old+B*b')(ht:t=c+q*y)(hP:P=A*k):O'+A*(q*(D+k*y))=U+P*B*(b'+t/B):=by
 have h1:=mod_add_div t B;have h2:=congrArg (P * ·) h1;have h3:=congrArg (P * ·) hn;simp only[mul_add] at h2 h3 h;have h4:P*t=P*c+P*(q*y):=by rw[ht,mul_add]
 have h5:A*(q*(D+k*y))=A*(q*D)+P*(q*y):=by rw[hP,mul_add,mul_add];congr 1;rw[mul_assoc A k,Nat.mul_left_comm q k]
 rw[h5,mul_assoc,mul_add,mul_add];omega
def J214(nl:Bool)(U d:List Nat)(k q id:Nat)(S:A1):Nat->List D->A1->Prop:=fun m fr S'=>∃j O c b a8 a15,m=d.length-j/\j<=d.length/\c<B/\b<=1/\List.length O=U.length/\CA O/\O.take k=U.take k/\O.drop (k+(d.length+1))=U.drop (k+(d.length+1)) /\
 val O+B^k*(q*val (d.take j))=val U+B^(k+j)*(b+c)/\S'=sset S id (.box (AL O)) /\
 fr=B0 69 [(0,.ar 1 id 0 U.length),(1,AD nl d .ro),(2,.i .i64 k),(3,.i .u64 q),(8,a8),(9,.i .u64 c),(10,.i .u32 b),(13,.i .i64 d.length),(14,.i .i64 j),(15,a15)]
theorem v214(nl:Bool)(U d:List Nat)(k q id:Nat)(S:A1)(hS:AA S id=some (.box (AL U)))(hU:CA U)(hd:CA d)(hq:q<B)(hlen:k+(d.length+1)<=U.length)(hb:U.length<=1000) :
  ∃w b,call dp 214 [.ar 1 id 0 U.length,AD nl d .ro,.i .i64 k,.i .u64 q] S=some (.b (decide (b=1)),sset S id (.box (AL (U.take k++(w++U.drop (k+(d.length+1))))))) /\
   w.length=d.length+1/\CA w/\b<=1/\val w+q*val d=val ((U.drop k).take (d.length+1))+B^(d.length+1)*b:=by
 have hid:=AJ hS
 obtain⟨r,S',e,w,b,rfl,rfl,h⟩:=f214 (.ar 1 id 0 U.length) (AD nl d .ro) (.i .i64 k) (.i .u64 q) S (fun r S'=>∃w b,r=.b (decide (b=1))/\S'=sset S id (.box (AL (U.take k++(w++U.drop (k+(d.length+1)))))) /\
   w.length=d.length+1/\CA w/\b<=1/\val w+q*val d=val ((U.drop k).take (d.length+1))+B^(d.length+1)*b) (by
  simp only[s214,B2,A5];refine AW (J214 nl U d k q id S) ?_ d.length _ _ ⟨0,U,0,0,.top,.top,by omega,by omega,by decide,by omega,rfl,hU,rfl,rfl,by simp[val],(Pl hS).symm,rfl⟩;rintro m fr S' ⟨j,O,c,b,a8,a15,rfl,hj,hc,hb1,lo,hO,ht,hdr,he,rfl,rfl⟩;rw[<-Ay,e214_0];have l0:AA (sset S id (.box (AL O))) id=some (.box (AL O)):=AR _ hid;by_cases Ap:j<d.length
  .have hx:=C0 hO (k+j);have hy:=C0 hd j
   have hqy:c+q*dg d j<B*B:=by have:q*dg d j<=(B-1)*(B-1):=mul_le_mul (by omega) (by omega);simp only[B] at *;omega
   have hBB:B*B=18446744073709551616:=rfl;have hcq:(c+q*dg d j)/B<B:=by rw[div_lt_iff_lt_mul CU];exact hqy
   have hm:(c+q*dg d j)%B<B:=mod_lt _ CU
   simp only[cO,BH,Ap,decide_true,Ka,A5,Al,Bt Ap,Jg,CJ hy,pj (show q*dg d j<18446744073709551616 by omega),VE (show c+q*dg d j<18446744073709551616 by omega),HM (show k+j<9223372036854775808 by omega),H0 (show k+j<U.length by omega),zero_add,
    Gq l0 (show k+j<O.length by omega),Kz,v243 hx hm hb1,CX,getElem?_cons_zero,getElem?_cons_succ,Ct l0 (show k+j<O.length by omega),HG,Zy,CG (show Bd j by unfold Bd;omega),Ao]
   refine⟨d.length-(j+1),by omega,j+1,O.set (k+j) _,_,_,a8,.top,rfl,by omega,hcq,Xh _ _ _,by simpa using lo,En hO (Me _ _ _),?_,?_,?_,rfl,rfl⟩
   .rw[K4 (by omega)];exact ht
   .rw[K1 (by omega)];exact hdr
   .rw[CK,<-add_assoc,pow_succ];exact sr he (Jx _ (by omega)) (RY hx hm hb1) rfl (pow_add _ _ _)
  .have:j=d.length:=by omega
   subst this;have hx:=C0 hO (k+d.length);have hdl:=RY hx hc hb1;rw[Ce (le_refl _)] at he;have h1:∀x:Nat,decide (((x:Nat):Int)=1)=decide (x=1):=fun x=>by simp;omega
   simp only[cO,BH,Ap,decide_false,Km,Ac,BC,Av,Ad,e214_r0,iZ,B2,A5,HM (show k+d.length<9223372036854775808 by omega),H0 (show k+d.length<U.length by omega),zero_add,Gq l0 (show k+d.length<O.length by omega),O4 hc,v243 hx hc hb1,CX,getElem?_cons_zero,getElem?_cons_succ,
    Ct l0 (show k+d.length<O.length by omega),HG,PG,h1]
   have ai:(O.set (k+d.length) (HW (dg O (k+d.length)) c b)).take k=U.take k:=by rw[K4 (by omega)];exact ht
   have PI:(O.set (k+d.length) (HW (dg O (k+d.length)) c b)).drop (k+(d.length+1))=U.drop (k+(d.length+1)):=by rw[K1 (by omega)];exact hdr
   have lo':(O.set (k+d.length) (HW (dg O (k+d.length)) c b)).length=U.length:=by rw[length_set];exact lo
   have hO':CA (O.set (k+d.length) (HW (dg O (k+d.length)) c b)):=En hO (Me _ _ _);have hv:=Jx (l:=O) (i:=k+d.length) (HW (dg O (k+d.length)) c b) (by omega)
   have EM:val (O.set (k+d.length) (HW (dg O (k+d.length)) c b))+B^k*(q*val d)=val U+B^k*(B^(d.length+1)*Qs (dg O (k+d.length)) c b):=by
    have e1:=congrArg (B^(k+d.length) * ·) hdl;simp only[mul_add] at e1 he
    have e2:B^k*(B^(d.length+1)*Qs (dg O (k+d.length)) c b)=B^(k+d.length)*(B*Qs (dg O (k+d.length)) c b):=by rw[<-mul_assoc,<-pow_add,<-mul_assoc,<-pow_succ];rfl
    omega
   have hw:=kg ai PI lo' hlen EM;have hc3:=AAJ (O.set (k+d.length) (HW (dg O (k+d.length)) c b)) k (d.length+1);rw[ai,PI] at hc3;rw[Cb];refine⟨_,_,rfl,congrArg (fun l=>sset S id (B9.box (AL l))) hc3,?_,Cf _ (KW _ hO'),Xh _ _ _,hw⟩
   simp;omega)
 exact⟨w,b,e,h⟩
theorem vS{P O O' A c y t old U D k:Nat}(h:O+P*c=U+A*D)(hO:O'+P*old=O+P*(t%B))(ht:t=old+y+c)(hP:P=A*k):O'+P*B*(t/B)=U+A*(D+k*y):=by
 have h1:=mod_add_div t B;have h2:=congrArg (P * ·) h1;simp only[mul_add] at h2;have h4:P*t=P*old+P*y+P*c:=by rw[ht,mul_add,mul_add]
 have h5:A*(D+k*y)=A*D+P*y:=by rw[hP,mul_add,mul_assoc]
 rw[mul_assoc];omega
def J215(nl:Bool)(U d:List Nat)(k id:Nat)(S:A1):Nat->List D->A1->Prop:=fun m fr S'=>∃j O c a11,m=d.length-j/\j<=d.length/\c<=1/\List.length O=U.length/\CA O/\O.take k=U.take k/\O.drop (k+(d.length+1))=U.drop (k+(d.length+1)) /\
 val O+B^(k+j)*c=val U+B^k*val (d.take j)/\S'=sset S id (.box (AL O)) /\
 fr=B0 44 [(0,.ar 1 id 0 U.length),(1,AD nl d .ro),(2,.i .i64 k),(6,.i .u32 c),(9,.i .i64 d.length),(10,.i .i64 j),(11,a11)]
theorem v215(nl:Bool)(U d:List Nat)(k id:Nat)(S:A1)(hS:AA S id=some (.box (AL U)))(hU:CA U)(hd:CA d)(hlen:k+(d.length+1)<=U.length)(hb:U.length<=1000) :
  ∃w z r,call dp 215 [.ar 1 id 0 U.length,AD nl d .ro,.i .i64 k] S=some (r,sset S id (.box (AL (U.take k++(w++U.drop (k+(d.length+1))))))) /\
   w.length=d.length+1/\CA w/\val w+B^(d.length+1)*z=val ((U.drop k).take (d.length+1))+val d:=by
 have hid:=AJ hS
 obtain⟨r,S',e,w,z,rfl,h⟩:=f215 (.ar 1 id 0 U.length) (AD nl d .ro) (.i .i64 k) S (fun r S'=>∃w z,S'=sset S id (.box (AL (U.take k++(w++U.drop (k+(d.length+1)))))) /\
   w.length=d.length+1/\CA w/\val w+B^(d.length+1)*z=val ((U.drop k).take (d.length+1))+val d) (by
  simp only[s215,B2,A5];refine AW (J215 nl U d k id S) ?_ d.length _ _ ⟨0,U,0,.top,by omega,by omega,by omega,rfl,hU,rfl,rfl,by simp[val],(Pl hS).symm,rfl⟩;rintro m fr S' ⟨j,O,c,a11,rfl,hj,hc,lo,hO,ht,hdr,he,rfl,rfl⟩;rw[<-Ay,e215_0];have l0:AA (sset S id (.box (AL O))) id=some (.box (AL O)):=AR _ hid;by_cases Ap:j<d.length
  .have hx:=C0 hO (k+j);have hy:=C0 hd j
   simp only[bp,BH,Ap,decide_true,Ka,A5,Al,Bt Ap,Jg,HM (show k+j<9223372036854775808 by omega),H0 (show k+j<U.length by omega),zero_add,
    Gq l0 (show k+j<O.length by omega),v142 hx hy hc,CX,getElem?_cons_zero,getElem?_cons_succ,Ct l0 (show k+j<O.length by omega),HG,CG (show Bd j by unfold Bd;omega),Ao]
   refine⟨d.length-(j+1),by omega,j+1,O.set (k+j) _,_,.top,rfl,by omega,?_,by simpa using lo,En hO (mod_lt _ CU),?_,?_,?_,rfl,rfl⟩
   .simp only[B] at *;omega
   .rw[K4 (by omega)];exact ht
   .rw[K1 (by omega)];exact hdr
   .rw[CK,<-add_assoc,pow_succ];exact vS he (Jx _ (by omega)) rfl (pow_add _ _ _)
  .have:j=d.length:=by omega
   subst this;have hx:=C0 hO (k+d.length);rw[Ce (le_refl _)] at he
   have hadd:A4 .add .num (.i .u32 (dg O (k+d.length):Nat)) (.i .u32 c)=some (.i .u32 (((dg O (k+d.length)+c)%B:Nat):Int)):=by rw[EB,<-natCast_add,Zu]
   simp only[bp,BH,Ap,decide_false,Km,Ac,BC,Av,Ad,zA,iy,B2,A5,HM (show k+d.length<9223372036854775808 by omega),H0 (show k+d.length<U.length by omega),zero_add,Gq l0 (show k+d.length<O.length by omega),hadd,
    Ct l0 (show k+d.length<O.length by omega),HG]
   have ai:(O.set (k+d.length) ((dg O (k+d.length)+c)%B)).take k=U.take k:=by rw[K4 (by omega)];exact ht
   have PI:(O.set (k+d.length) ((dg O (k+d.length)+c)%B)).drop (k+(d.length+1))=U.drop (k+(d.length+1)):=by rw[K1 (by omega)];exact hdr
   have lo':(O.set (k+d.length) ((dg O (k+d.length)+c)%B)).length=U.length:=by rw[length_set];exact lo
   have hO':CA (O.set (k+d.length) ((dg O (k+d.length)+c)%B)):=En hO (mod_lt _ CU);have hv:=Jx (l:=O) (i:=k+d.length) ((dg O (k+d.length)+c)%B) (by omega)
   have EM:val (O.set (k+d.length) ((dg O (k+d.length)+c)%B))+B^k*(B^(d.length+1)*((dg O (k+d.length)+c)/B))=val U+B^k*val d:=by
    have h1:=mod_add_div (dg O (k+d.length)+c) B;have e1:=congrArg (B^(k+d.length) * ·) h1;simp only[mul_add] at e1
    have e2:B^k*(B^(d.length+1)*((dg O (k+d.length)+c)/B))=B^(k+d.length)*(B*((dg O (k+d.length)+c)/B)):=by rw[<-mul_assoc,<-pow_add,<-mul_assoc,<-pow_succ];rfl
    omega
   have hw:=kg ai PI lo' hlen EM;have hc3:=AAJ (O.set (k+d.length) ((dg O (k+d.length)+c)%B)) k (d.length+1);rw[ai,PI] at hc3;simp only[Aw,WQ];refine⟨_,_,congrArg (fun l=>sset S id (B9.box (AL l))) hc3,?_,Cf _ (KW _ hO'),hw⟩
   simp;omega)
 exact⟨w,z,r,e,h⟩
end Go.Proofs.YtjniafcnjbbomaaGreatDoor.DE.V
