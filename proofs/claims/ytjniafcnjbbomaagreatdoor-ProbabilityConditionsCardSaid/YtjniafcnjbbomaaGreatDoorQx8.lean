/- Joined texts. -/
import Derived.Test.YtjniafcnjbbomaaGreatDoorQx7
set_option linter.all false
open List (length_take)
open Nat (log2 mod_lt zero_add)
namespace Go.Proofs.YtjniafcnjbbomaaGreatDoor.DE.V
open Go NL
theorem cj{u:List Nat}{k m j:Nat}(h:j<m+3):dg (win u k m) j=dg u (k+j):=by simp only[dg,win,List.getElem?_take_of_lt h,List.getElem?_drop]
def NF(nl:Bool)(l:List Nat):Prop:=nl=true->l=[]
theorem r0_135{d u q:List Nat}{A la m k g nq:Nat}(h:DM d u q A la m (k+1))(hnq:q.length=nq)(hg:Good d (win u k m) g)(yN:la<=300)(a4 a5 a6 a9 a13 a14 a18 a95 a142 a149:D)(Q:Ex->List D->A1->Prop)
  (hQ:∀u' q',DM d u' q' A la m k->q'.length=nq->Q .normal (B0 175 [(4,a4),(5,a5),(6,a6),(9,a9),(10,AD false d .ro),(11,.ar 1 0 0 (la+1)),(12,.ar 1 1 0 nq),(13,a13),(14,a14),(15,.i .i64 k),(17,.top),(18,.top),(95,a95),(142,.top),(149,.top)]) [.box (AL q'),.box (AL u')]) :
  XU (call dp) a4 a5 a6 a9 (AD false d .ro) (.ar 1 0 0 (la+1)) (.ar 1 1 0 nq) a13 a14 (.i .i64 k) (.i .u64 g) a18 a95 a142 a149 [.box (AL q),.box (AL u)] Q:=by
 obtain⟨W,hz,hu,ND⟩:=h.cut;have hlq:=h.lq;have hkq:k<q.length:=h.xX;have hs0:∀(X Y:List D) (e:B9),sset [B9.box X,.box Y] 0 e=[.box X,e]:=fun _ _ _=>rfl;have hs1:∀(X Y:List D) (e:B9),sset [B9.box X,.box Y] 1 e=[e,.box Y]:=fun _ _ _=>rfl;obtain⟨w,b,e1,lw,hw,hb1,ew⟩:=v214 false u d k g 0 [.box (AL q),.box (AL u)] rfl h.hu h.hd hg.lt (by rw[h.ld,h.lu];omega) (by rw[h.lu];omega);have em:m+2+1=m+3:=by omega
 rw[h.ld,em] at e1 lw ew;rw[h.lu,hs0] at e1;rw[show(u.drop k).take (m+3)=win u k m from rfl] at ew;have l1:∀X,AA [B9.box (AL q),.box X] 1=some (.box (AL q)):=fun _=>rfl;have Er:∀(X:List D) (x:Nat),Ax [B9.box (AL q),.box X] 1 false (.bx 1 k) (.i .u32 x)=some [.box (AL (q.set k x)),.box X]:=fun X x=>by rw[Ct (l1 X) hkq,hs1]
 simp only[XU,e1,A5,jn];rcases(show b=0\/b=1 by omega) with hb|hb
 .subst hb;rw[Nat.mul_zero,Nat.add_zero] at ew;obtain⟨r1,r2⟩:=red_ok W hg ew;have hd:=DM.step h r1 r2 lw hw;simp only[show decide ((0:Nat)=1)=false from rfl,Ac,O4 hg.lt,A5,H0 (show k<nq by omega),zero_add,Er];exact hQ _ _ hd (by rw[List.length_set];exact hnq)
 .subst hb
  have hU':(u.take k++(w++u.drop (k+(m+3)))).length=la+1:=by have h1:=congrArg List.length hu;have h2:=W.lw;rw[List.length_append,List.length_append,ND,h2,h.lu] at h1;simp only[List.length_append,ND,lw];omega
  have hLU:CA (u.take k++(w++u.drop (k+(m+3)))):=RW (Cf _ h.hu) (RW hw (KW _ h.hu));obtain⟨w2,z,r,e2,lw2,hw2,ew2⟩:=v215 false _ d k 0 [.box (AL q),.box (AL (u.take k++(w++u.drop (k+(m+3)))))] rfl hLU h.hd (by rw[h.ld,hU'];have:=h.lu;omega) (by rw[hU'];omega)
  have t1:(u.take k++(w++u.drop (k+(m+3)))).take k=u.take k:=by rw[List.take_append_of_le_length (by omega),List.take_of_length_le (by omega)]
  have t2:(u.take k++(w++u.drop (k+(m+3)))).drop k=w++u.drop (k+(m+3)):=by rw[List.drop_append_of_le_length (by omega),List.drop_of_length_le (by omega),List.nil_append]
  have t3:(u.take k++(w++u.drop (k+(m+3)))).drop (k+(m+3))=u.drop (k+(m+3)):=by rw[<-List.drop_drop,t2,List.drop_append_of_le_length (by omega),List.drop_of_length_le (by omega),List.nil_append]
  rw[h.ld,em] at e2 lw2 ew2;rw[hU',hs0,t1,t3] at e2;rw[t2,List.take_append_of_le_length (by omega),List.take_of_length_le (by omega)] at ew2;rw[Nat.mul_one] at ew;obtain⟨g1,r1,r2⟩:=tX W hg lw hw ew lw2 hw2 ew2;have hd:=DM.step h r1 r2 lw2 hw2;have hg1:g-1<B:=by have:=hg.lt;omega
  simp only[show decide ((1:Nat)=1)=true from rfl,Al,sub64 (b:=1) g1 (show g<18446744073709551616 by have:=hg.lt;simp only[B] at this;omega),show(1:Int)=((1:Nat):Int) from rfl,A5,e2,O4 hg1,H0 (show k<nq by omega),zero_add,Er];exact hQ _ _ hd (by rw[List.length_set];exact hnq)
def K135(d u q:List Nat)(m k nq la:Nat)(a9:D):Nat->List D->A1->Prop:=fun n fr S=>∃g r a4 a5 a6 a95 a142 a149,n=g/\Gs d (win u k m) m g r/\r<B/\g<18446744073709551616/\S=[.box (AL q),.box (AL u)] /\
 fr=B0 175 [(4,a4),(5,a5),(6,a6),(9,a9),(10,AD false d .ro),(11,.ar 1 0 0 (la+1)),(12,.ar 1 1 0 nq),(13,.i .u64 (dg d (m+1):Nat)),(14,.i .u64 (dg d m:Nat)),(15,.i .i64 k),(17,.i .u64 g),(18,.i .u64 r),(95,a95),(142,a142),(149,a149)]
def J135(d:List Nat)(A la m nq:Nat)(a9:D):Nat->List D->A1->Prop:=fun k fr S=>∃u q a4 a5 a6 a17 a18 a95 a142 a149,DM d u q A la m k/\List.length q=nq/\S=[.box (AL q),.box (AL u)] /\
 fr=B0 175 [(4,a4),(5,a5),(6,a6),(9,a9),(10,AD false d .ro),(11,.ar 1 0 0 (la+1)),(12,.ar 1 1 0 nq),(13,.i .u64 (dg d (m+1):Nat)),(14,.i .u64 (dg d m:Nat)),(15,.i .i64 ((k:Int)-1)),(17,a17),(18,a18),(95,a95),(142,a142),(149,a149)]
set_option maxHeartbeats 2000000 in
theorem mW{d u q:List Nat}{A la m k nq:Nat}(h:DM d u q A la m (k+1))(hnq:q.length=nq)(yN:la<=300)(a4 a5 a6 a9 a17 a18 a95 a142 a149:D)(Q:Ex->List D->A1->Prop)
  (hQ:∀u' q' a4 a5 a6 a95,DM d u' q' A la m k->q'.length=nq->Q .normal (B0 175 [(4,a4),(5,a5),(6,a6),(9,a9),(10,AD false d .ro),(11,.ar 1 0 0 (la+1)),(12,.ar 1 1 0 nq),(13,.i .u64 (dg d (m+1):Nat)),(14,.i .u64 (dg d m:Nat)),(15,.i .i64 ((k:Int)-1)),(17,.top),(18,.top),(95,a95),(142,.top),(149,.top)]) [.box (AL q'),.box (AL u')]) :
  XR (call dp) a4 a5 a6 a9 (AD false d .ro) (.ar 1 0 0 (la+1)) (.ar 1 1 0 nq) (.i .u64 (dg d (m+1):Nat)) (.i .u64 (dg d m:Nat)) (.i .i64 k) a17 a18 a95 a142 a149 [.box (AL q),.box (AL u)] Q:=by
 obtain⟨W,hz,hu,ND⟩:=h.cut;have hlu:=h.lu;have hlq:=h.lq;have hkq:k<q.length:=h.xX;have hg:A4 .geq .num (.i .i64 (k:Int)) (.i .i64 0)=some (.b true):=by rw[Ek];simp
 have l0:AA [B9.box (AL q),.box (AL u)] 0=some (.box (AL u)):=rfl;have w2:=cj (u:=u) (k:=k) (m:=m) (j:=m+2) (by omega);have w1:=cj (u:=u) (k:=k) (m:=m) (j:=m+1) (by omega);have w0:=cj (u:=u) (k:=k) (m:=m) (j:=m) (by omega);have x2:=C0 W.hw (m+2);have x1:=C0 W.hw (m+1);have x0:=C0 W.hw m;have htp:=W.AAC;have htB:=C0 W.hd (m+1);have hnB:=C0 W.hd m;have hU:dg (win u k m) (m+2)*B+dg (win u k m) (m+1)<18446744073709551616:=by simp only[B] at *;omega
 have hG:=tR W;have hgl:(dg (win u k m) (m+2)*B+dg (win u k m) (m+1))/dg d (m+1)<=dg (win u k m) (m+2)*B+dg (win u k m) (m+1):=Nat.div_le_self _ _;have hrl:(dg (win u k m) (m+2)*B+dg (win u k m) (m+1))%dg d (m+1)<dg d (m+1):=mod_lt _ htp
 have ff:A4 .sub .num (.i .i64 ((k+(m+2):Nat):Int)) (.i .i64 1)=some (.i .i64 ((k+(m+1):Nat):Int)):=by rw[Cp,show(((k+(m+2):Nat):Int)-1)=((k+(m+1):Nat):Int) by omega,QO (by omega)]
 have hsub2:A4 .sub .num (.i .i64 ((k+(m+2):Nat):Int)) (.i .i64 2)=some (.i .i64 ((k+m:Nat):Int)):=by rw[Cp,show(((k+(m+2):Nat):Int)-2)=((k+m:Nat):Int) by omega,QO (by omega)]
 have hk1:A4 .sub .num (.i .i64 (k:Int)) (.i .i64 1)=some (.i .i64 ((k:Int)-1)):=by rw[Cp,wrap64 ⟨by omega,by omega⟩]
 simp only[XR,hg,A5,Al,B2,h.ld,HM (show k+(m+2)<9223372036854775808 by omega),ff,H0 (show k+(m+2)<la+1 by omega),H0 (show k+(m+1)<la+1 by omega),zero_add,Gq l0 (show k+(m+2)<u.length by omega),Gq l0 (show k+(m+1)<u.length by omega),<-w2,<-w1,
  CJ x2,CJ x1,jt x2,orB x2 x1,quo64 htp hU,rem64 htp]
 generalize hgg:(dg (win u k m) (m+2)*B+dg (win u k m) (m+1))/dg d (m+1)=g0 at *;generalize hrr:(dg (win u k m) (m+2)*B+dg (win u k m) (m+1))%dg d (m+1)=r0 at *;generalize hR:QS (call dp) RH (Af 1 (QS (call dp) Rh Q))=R;refine AW (K135 d u q m k nq la a9) ?_ g0 _ _ ⟨g0,r0,a4,a5,a6,.top,a142,a149,rfl,hG,by omega,by omega,rfl,rfl⟩;rintro g fr S ⟨_,r,a4,a5,a6,a95,a142,a149,rfl,hGs,hr,hg64,rfl,rfl⟩;rw[<-Ay,e135_0]
 have done:∀gg a4 a5 a6 a95 r' a142 a149,Good d (win u k m) gg->R .normal (B0 175 [(4,a4),(5,a5),(6,a6),(9,a9),(10,AD false d .ro),(11,.ar 1 0 0 (la+1)),(12,.ar 1 1 0 nq),(13,.i .u64 (dg d (m+1):Nat)),(14,.i .u64 (dg d m:Nat)),(15,.i .i64 k),(17,.i .u64 gg),(18,r'),(95,a95),(142,a142),(149,a149)]) [.box (AL q),.box (AL u)]:=by intro gg a4 a5 a6 a95 r' a142 a149 Vh;rw[<-hR,Ad,e135_r0];refine r0_135 h hnq Vh yN _ _ _ _ _ _ _ _ _ _ _ ?_;intro u' q' PI ab;simp only[GP,Ad,e135_r1,jJ,hk1,A5];exact hQ u' q' _ _ _ _ PI ab
 have hgB:A4 .geq .num (.i .u64 g) (.i .u64 4294967296)=some (.b (decide (B<=g))):=je g B
 have dec:(B<=g\/r*B+dg (win u k m) m<g*dg d m)->WB (.b true)
   (OX (A4 .sub .num (.i .u64 g) (.i .u64 1)) fun x44=>
    OX (A4 .add .num (.i .u64 r) (.i .u64 (dg d (m+1):Nat))) fun x45=>
    OX (A4 .geq .num x45 (.i .u64 4294967296)) fun x46=>
    WB x46
    (KE (fun Au S'=>∃m',m'<g/\K135 d u q m k nq la a9 m' Au S') (Af 2 R) (.exit 2) (B0 175 [(4,a4),(5,a5),(6,a6),(9,a9),(10,AD false d .ro),(11,.ar 1 0 0 (la+1)),(12,.ar 1 1 0 nq),(13,.i .u64 (dg d (m+1):Nat)),(14,.i .u64 (dg d m:Nat)),(15,.i .i64 k),(17,x44),(18,x45),(95,a95),(142,.top),(149,x46)]) [.box (AL q),.box (AL u)])
    (KE (fun Au S'=>∃m',m'<g/\K135 d u q m k nq la a9 m' Au S') (Af 2 R) .normal (B0 175 [(4,a4),(5,a5),(6,a6),(9,a9),(10,AD false d .ro),(11,.ar 1 0 0 (la+1)),(12,.ar 1 1 0 nq),(13,.i .u64 (dg d (m+1):Nat)),(14,.i .u64 (dg d m:Nat)),(15,.i .i64 k),(17,x44),(18,x45),(95,a95),(142,.top),(149,x46)]) [.box (AL q),.box (AL u)])) (False):=by
  intro hc;obtain⟨g1,hGs'⟩:=zK W hGs hc;have e1:=sub64 (b:=1) g1 hg64;have e2:=VE (a:=r) (b:=dg d (m+1)) (by simp only[B] at *;omega);have e3:A4 .geq .num (.i .u64 ((r+dg d (m+1):Nat):Int)) (.i .u64 4294967296)=some (.b (decide (B<=r+dg d (m+1)))):=je _ B;rw[show((1:Nat):Int)=1 from rfl] at e1;simp only[Al,e1,e2,e3,A5];by_cases hb:B<=r+dg d (m+1)
  .simp only[hb,decide_true,Al,BC,Av];exact done _ _ _ _ _ _ _ _ (vM W hGs' hb)
  .simp only[hb,decide_false,Ac,Ao];exact⟨g-1,by omega,g-1,_,a4,a5,a6,a95,.top,_,rfl,hGs',by omega,by omega,rfl,rfl⟩
 by_cases h1:B<=g
 .have:=dec (.inl h1);rw[Al] at this;simp only[bB,hgB,h1,decide_true,JD,nE,A5,Jf,Al];exact this
 .have hg2:g<B:=by omega
  have hmul:g*dg d m<18446744073709551616:=by have:=Nat.mul_le_mul (Nat.le_of_lt hg2) (Nat.le_of_lt hnB);have h3:g*dg d m<=(B-1)*(B-1):=Nat.mul_le_mul (by omega) (by omega);simp only[B] at h3;omega
  have fb:∀a b:Nat,A4 .gtr .num (.i .u64 a) (.i .u64 b)=some (.b (decide (b<a))):=fun a b=>by rw[Mq];simp
  simp only[bB,hgB,h1,decide_false,EE,A5,GI,pj hmul,jt hr,B2,h.ld,HM (show k+(m+2)<9223372036854775808 by omega),hsub2,H0 (show k+m<la+1 by omega),zero_add,Gq l0 (show k+m<u.length by omega),<-w0,CJ x0,orB hr x0,fb];by_cases h2:r*B+dg (win u k m) m<g*dg d m
  .have:=dec (.inr h2);rw[Al] at this;simp only[h2,decide_true,Al];exact this
  .simp only[h2,decide_false,Ac,BC,Av];exact done _ _ _ _ _ _ _ _ (ry W hGs hg2 (by omega))
set_option maxHeartbeats 4000000 in
theorem v135(nl B3:Bool)(a b:List Nat)(ha:VN a)(hb:VN b)(la:CA a)(lb:CA b)(hn:NF nl a)(h0:b≠[]) :
  ∃n1 n2,A0 (call dp) 135 [AD nl a .ro,AD B3 b .ro]=some (.AY [AD n1 (B1 (val a/val b)) .ro,AD n2 (B1 (val a%val b)) .ro,.i .i64 0])/\NF n1 (B1 (val a/val b))/\NF n2 (B1 (val a%val b)):=by
 have h1:=ha.1;have h2:=hb.1;have hba:Bd a.length:=by unfold Bd;omega
 have hbb:Bd b.length:=by unfold Bd;omega
 have hbpos:b.length≠0:=by simpa using h0
 have pG:=Can.pos (hb.can lb) h0
 obtain⟨r,e,n1,n2,rfl,f1,f2⟩:=j135 (AD nl a .ro) (AD B3 b .ro) (fun d=>∃n1 n2,d=.AY [AD n1 (B1 (val a/val b)) .ro,AD n2 (B1 (val a%val b)) .ro,.i .i64 0]/\NF n1 (B1 (val a/val b))/\NF n2 (B1 (val a%val b))) (by simp[A9]) (by rintro _ ⟨n1,n2,rfl,_⟩;simp[AG,A9]) (by
  have hz:A4 .eql .num (.i .i64 (b.length:Int)) (.i .i64 0)=some (.b false):=by rw[PG];simp[h0]
  have K9:A4 .lss .num (.i .i64 (bS (val a) (val b))) (.i .i64 0)=some (.b (decide (val a<val b))):=by rw[Jv,tJ]
  have UX:A4 .eql .num (.i .i64 (b.length:Int)) (.i .i64 1)=some (.b (decide (b.length=1))):=by rw[PG];simp;omega
  simp only[s135,Bh,v105 nl a hba,v105 B3 b hbb,ha,hb,decide_true,A5,Cu,Bool.not_true,EE,GI,B2,hz,Ac,v82 nl B3 a b ha hb la lb,K9,UX];by_cases Ap:val a<val b
  .simp only[Ap,decide_true,Al,pW nl a hn (by omega),v146 nl a la hba,A5];refine⟨true,nl,?_,?_,?_⟩
   .rw[Nat.div_eq_of_lt Ap,Nat.mod_eq_of_lt Ap,G5];rfl
   .intro _;rw[Nat.div_eq_of_lt Ap,G5]
   .intro h;rw[Nat.mod_eq_of_lt Ap,hn h];exact G5
  .simp only[Ap,decide_false,Ac];by_cases pE:b.length=1
   .obtain⟨x,rfl⟩:∃x,b=[x]:=by
     cases b with
     |nil=>simp at pE
     |cons x t=>cases t with
      |nil=>exact⟨x,rfl⟩
      |cons y t=>simp at pE
    have hxB:x<B:=lb x (by simp);have hx:val [x]=x:=by simp[val]
    have hd0:dg [x] 0=x:=rfl;have ia:=Bt (nl:=B3) (l:=[x]) (o:=.ro) (k:=.i64) (i:=0) (by simp);rw[hd0] at ia;rw[hx] at pG Ap ⊢;have hr:val a%x<x:=mod_lt _ pG;have hrB:val a%x<B:=Nat.lt_trans hr hxB;rw[show((0:Nat):Int)=0 from rfl] at ia;simp only[pE,decide_true,Al,ia,A5,Jg,v154 nl a x la (by omega) pG hxB,CX,List.getElem?_cons_zero,List.getElem?_cons_succ,CJ hrB,v83 (n:=val a%x) (by generalize val a%x=y at *;simp only[B] at hrB;omega)];exact⟨false,false,rfl,fun h=>(by cases h),fun h=>(by cases h)⟩
   .obtain⟨m,hm⟩:∃m,b.length=m+2:=⟨b.length-2,by omega⟩
    have hle:b.length<=a.length:=NO la (hb.can lb) (by omega)
    have oU:dg b (m+1)≠0:=by have:=hb.2;rw[WK h0,hm] at this;simpa using this
    have htB:=C0 lb (m+1);have hs32:31-log2 (dg b (m+1))<32:=by omega
    obtain⟨k1,k2,k3,k4⟩:=Sl lb hm oU rfl;obtain⟨out,e213,lo,hLo,hvo⟩:=v213 B3 b (31-log2 (dg b (m+1))) lb (by omega) hs32;obtain⟨u,sG,lu,hLu,hvu⟩:=v1213 nl a (31-log2 (dg b (m+1))) [] la (by omega) hs32;have hls:b.length-1=m+1:=by omega
    have ia:=Bt (nl:=B3) (l:=b) (o:=.ro) (k:=.i64) (i:=m+1) (by omega);have PO:CA (out.take (m+2)):=Cf _ hLo;have ld:(out.take (m+2)).length=m+2:=by rw[length_take];omega
    have vd:val (out.take (m+2))=val b*2^(31-log2 (dg b (m+1))):=by rw[Ry hLo (by omega) (by rw[hvo];exact k2),hvo]
    have Ty:GG 1 (AD false out .ro) none (some (.i .i64 ((m+2:Nat):Int)))=some (AD false (out.take (m+2)) .ro):=TW (by omega);generalize out.take (m+2)=d at *;have iad1:=Bt (nl:=false) (l:=d) (o:=.ro) (k:=.i64) (i:=m+1) (by omega);have iad0:=Bt (nl:=false) (l:=d) (o:=.ro) (k:=.i64) (i:=m) (by omega);have start:=DM.start la lb rfl hm (by omega) oU rfl PO ld vd hLu lu hvu rfl;generalize hs:31-log2 (dg b (m+1))=s at *;have xY:=GQ (S:=[B9.box (AL u)]) (n:=a.length-(m+2)+1) (by unfold AP;omega);have sb1:A4 .sub .num (.i .i64 ((m+2:Nat):Int)) (.i .i64 1)=some (.i .i64 ((m+1:Nat):Int)):=Xr (a:=m+2) (b:=1) (by omega) (by omega);have sb2:A4 .sub .num (.i .i64 ((m+2:Nat):Int)) (.i .i64 2)=some (.i .i64 ((m:Nat):Int)):=Xr (a:=m+2) (b:=2) (by omega) (by omega);have sb3:A4 .sub .num (.i .i64 ((a.length:Nat):Int)) (.i .i64 ((m+2:Nat):Int))=some (.i .i64 ((a.length-(m+2):Nat):Int)):=Xr (by omega) (by omega);have sb4:A4 .sub .num (.i .i64 ((a.length-(m+2)+1:Nat):Int)) (.i .i64 1)=some (.i .i64 (((a.length-(m+2)+1:Nat):Int)-1)):=by rw[Cp,wrap64 ⟨by omega,by omega⟩]
    have h212:=v212 htB oU;rw[hs] at h212;simp only[hm,show decide (m+2=1)=false by simp,Ac,sb1,ia,A5,Jg,h212,e213,Ty,sG,List.length_nil,sb3,CG (show Bd (a.length-(m+2)) by unfold Bd;omega),xY,B2,ld,iad1,sb2,iad0,CJ (C0 PO (m+1)),CJ (C0 PO m),dA,sb4,List.length_cons,zero_add];have lq:(List.replicate (a.length-(m+2)+1) 0).length=a.length-(m+2)+1:=List.length_replicate;generalize a.length-(m+2)+1=nq at *;generalize hR:QS (call dp) RL _=R;refine AW (J135 d (val a*2^s) a.length m nq (.i .i64 s)) ?_ nq _ _ ⟨u,_,.top,.top,.top,.top,.top,.top,.top,.top,start,lq,rfl,rfl⟩;rintro k fr S ⟨u,q,a4,a5,a6,a17,a18,a95,a142,a149,hD,hq,rfl,rfl⟩;rw[<-Ay,e135_1];cases k with
    |succ k=>
     have e1:((k+1:Nat):Int)-1=k:=by omega
     rw[e1];refine mW hD hq (by omega) _ _ _ _ _ _ _ _ _ _ ?_;intro u' q' a4 a5 a6 a95 PI ab;rw[Ao];exact⟨k,by omega,u',q',a4,a5,a6,.top,.top,a95,.top,.top,PI,ab,rfl,rfl⟩
    |zero=>
     obtain⟨f1,f2⟩:=hD.fin;have hg:A4 .geq .num (.i .i64 (((0:Nat):Int)-1)) (.i .i64 0)=some (.b false):=by rw[Ek];rfl
     have fu:=Jw (S:=[B9.box (AL q),.box (AL u)]) (id:=0) (l:=u) rfl;have fq:=Jw (S:=[B9.box (AL q),.gone]) (id:=1) (l:=q) rfl;rw[hD.lu] at fu;rw[hq] at fq;have hs0:sset [B9.box (AL q),.box (AL u)] 0 .gone=[.box (AL q),.gone]:=rfl;rw[hs0] at fu;have hqv:val q=val a/val b:=by rw[f1,vd,Nat.mul_div_mul_right _ _ (Nat.two_pow_pos s)]
     have huv:val u=val a%val b*2^s:=by rw[f2,vd,Nat.mul_mod_mul_right]
     have Rn:val (u.take (m+2))=val u:=by refine Ry hD.hu (by rw[hD.lu];omega) ?_;rw[f2];have:=mod_lt (val a*2^s) (show 0<val d by rw[vd];exact Nat.mul_pos pG (Nat.two_pow_pos s));have h3:=CY PO;rw[ld] at h3;exact Nat.lt_trans this h3
     have slu:GG 1 (AD false u .ro) none (some (.i .i64 ((m+2:Nat):Int)))=some (AD false (u.take (m+2)) .ro):=TW (by rw[hD.lu];omega);obtain⟨w,e216,lw,hLw,hvw⟩:=v216 false (u.take (m+2)) s (Cf _ hD.hu) (by rw[length_take];omega) k1;rw[Rn,huv,Nat.mul_div_cancel _ (Nat.two_pow_pos s)] at hvw;have t1:=v146 false q hD.hq (by unfold Bd;have:=hD.lq;omega);have t2:=v146 false w hLw (by rw[lw,length_take];unfold Bd;omega);rw[hqv] at t1;rw[hvw] at t2;simp only[XR,hg,A5,Ac,BC,Av];rw[<-hR];simp only[Ad,A5,AAN,jR,fu,fq,t1,B2,ld,slu,e216,t2];simp only[Aw,WQ]
     exact⟨false,false,rfl,fun h=>(by cases h),fun h=>(by cases h)⟩)
 exact⟨n1,n2,e,f1,f2⟩
end Go.Proofs.YtjniafcnjbbomaaGreatDoor.DE.V
