/- Joined texts. -/
import Derived.Test.YtjniafcnjbbomaaGreatDoorQx2
import Derived.Test.YtjniafcnjbbomaaGreatDoorQx3
import Derived.Test.YtjniafcnjbbomaaGreatDoorQx7
import Derived.Test.YtjniafcnjbbomaaGreatDoorQx9
import Derived.Test.YtjniafcnjbbomaaGreatDoorQx10
import Derived.Test.YtjniafcnjbbomaaGreatDoorQx11
import Derived.KernelRfl
set_option linter.all false
open List (any_eq_true append_assoc length_append length_map map_congr_left map_map mem_append mem_map mem_singleton)
open Bool (and_eq_true)
open Option (bind_some getD_some map_some)
open Nat (Coprime add_mul gcd_comm le_refl le_trans mul_comm mul_le_mul mul_pos zero_add)
open Int (toNat_natCast)
namespace Go.Proofs.YtjniafcnjbbomaaGreatDoor.DE.V
open Go BT
theorem nN(z:Int):KF (IntKind.wrap .i64 z):=by simp[KF,IntKind.wrap,IntKind.signed,IntKind.bits];omega
def Nu(n:Nat)(a b:List (Tm (Eu n)))(p:Tm (Eu n)):Prop:=∃x,x∈a/\∃y,y∈b/\p.fs=BS (Ey n) x.fs y.fs/\(p.nl=true->p.fs=[])/\1<=p.c/\p.c<=1152921504606846976
theorem qR:∀n,PE (As n)
 |0=>fun x=>nomatch x
 |n+1=>PE_An (qR n)
theorem vm{Z:Type}{P:iF Z}:∀{l:List (Tm Z)} {p:Option (Tm Z)},wk P p l=true->∀t,t∈l->1<=t.c/\t.c<=1152921504606846976
 |[],_,_,_,ht=>by cases ht
 |x::l,p,h,t,ht=>by
  simp only[wk,and_eq_true,decide_eq_true_eq] at h;rcases List.mem_cons.1 ht with rfl|ht
  .exact⟨h.1.1.1.1,h.1.1.1.2⟩
  .exact vm h.2 t ht
section
variable {n:Nat}
theorem AA8{a b:List (Tm (Eu n))}{p:Tm (Eu n)}(h:Nu n a b p)(ha:∀t,t∈a->My (Bf n) t)(hb:∀t,t∈b->My (Bf n) t)(hl:p.fs.length<=50000):My (Bf n) p:=by obtain⟨x,hx,y,hy,h1,h2,h3,h4⟩:=h;refine⟨⟨by omega,by omega⟩,h2,by unfold Bi;omega,?_⟩;rw[h1];refine Pk (fun f z hf=>?_) _ _ (ha x hx).fs (hb y hy).fs;exact⟨hf.kind,hf.row,hf.NG,hf.OG,hf.args,hf.fn,hf.inl,hf.NH,hf.items,hf.op,hf.bound,nN z⟩
theorem qO{p x y:Tm (Eu n)}(h1:p.fs=BS (Ey n) x.fs y.fs)(w:Eu n->Nat):Hn w p<=Hn w x+Hn w y:=by have h2:=oJ (c:=Ey n) w x.fs y.fs;have h3:=mP (c:=Ey n) x.fs y.fs;simp only[Hn,h1];omega
set_option maxHeartbeats 4000000 in
theorem v20(a b:Eu (n+1))(ka:Bf (n+1) a)(kb:Bf (n+1) b)(wa:CD (n+1) a<=30)(wb:CD (n+1) b<=30) :
  ∃r,A0 (call dp) 20 [As (n+1) a,As (n+1) b]=some r/\(r=.AY [.sl 2 true [] .ro,.i .i64 1]\/r=.AY [.sl 2 true [] .ro,.i .i64 6] \/
   ∃R:An (Eu n),r=.AY [As (n+1) (Gd (n+1) R),.i .i64 0]/\Hd (Bf n) R/\Sy (CD n) R<=1800/\∀t,t∈R.ts->∃p,Nu n a.ts b.ts p/\t.fs=p.fs):=by
 have hg:=Az (n+1);have xt:=hg.strip a;have hsb:=hg.strip b;have Va:=(Yl (n+1)).V a ka;have Vb:=(Yl (n+1)).V b kb
 apply j20 _ _ _ (by simp[A9,xt,hsb,hg.AG]) (by
  rintro r (rfl|rfl|⟨R,rfl,_⟩)
  .rfl
  .rfl
  .simp[DE.AG,A9,hg.AG])
 rw[xt,hsb];by_cases hv:(oz (n+1)).V a=true/\(oz (n+1)).V b=true
 .obtain⟨oZ,pG⟩:=hv;rw[oZ] at Va;rw[pG] at Vb;have sa:=bL (n+1) a oZ;have sb:=bL (n+1) b pG;have hva':ov (oz n) (As n) a=true:=oZ;have hvb':ov (oz n) (As n) b=true:=pG;simp only[ov,and_eq_true] at hva' hvb';have ca:=vm hva'.2;have cb:=vm hvb'.2;have ha1:a.ts.length<=30:=Xa wa;have hb1:b.ts.length<=30:=Xa wb;obtain⟨NB,hNB⟩:∃NB,NB=b.ts.length:=⟨_,rfl⟩
  obtain⟨WB',hWB⟩:∃W,W=(b.ts.map (Hn (CD n))).sum:=⟨_,rfl⟩
  have hWB30:WB'<=30:=by rw[hWB];exact wb
  generalize hP:(fun(d:D) (_:A1)=>_)=P;simp[s20,Va,Vb,gq (e:=As n)];have yN:AK false (As (n+1) a)=some (.i .i64 a.ts.length):=M4 (As n) a;have hlb:AK false (As (n+1) b)=some (.i .i64 b.ts.length):=M4 (As n) b;simp only[yN,A5];generalize hR:QS (call dp) X1 _=R
  let J:Nat->List D->A1->Prop:=fun q fr S=>∃k L nn o b8 b22 b25 b26 b27 b28,fr=B0 52 [(1,As (n+1) b),(4,.top),(5,.top),(6,oi (As n) nn L o),(8,b8),(19,As (n+1) a),(20,.i .i64 a.ts.length),(21,.i .i64 (k:Nat)),(22,b22),(25,b25),(26,b26),(27,b27),(28,b28)]/\k+q=a.ts.length/\Mj S nn L.length o/\(∀p,p∈L->Nu n a.ts b.ts p) /\
   L.length<=k*30/\(L.map (Hn (CD n))).sum<=NB*Ll (Hn (CD n)) a.ts k+k*WB'/\(nn=true->L=[])
  refine AW J ?_ a.ts.length _ _ ⟨0,[],true,.ro,_,_,_,_,_,_,rfl,by simp,.inl ⟨rfl,rfl,rfl⟩,by simp,by simp,by simp,by simp⟩;intro q fr S hJ;obtain⟨k,L,nn,o,b8,b22,b25,b26,b27,b28,C7,hk,hL,yQ,hlen,xu,hnn⟩:=hJ;rw[C7];rw[<-Ay,e20_1];simp[s20_1];split<;>rename_i h
  .obtain⟨x,hx⟩:=AZ (l:=a.ts) (k:=k) h;have hxm:=gC hx;have kx:=ka.ts x hxm;have cx:=ca x hxm;have wx:=PY (x:=a) (w:=CD n) wa hxm;have ak:Ak 2 (As (n+1) a) (.i .i64 k)=some (.el (Cj (As n) x) 0):=Bn (As n) .i64 hx;obtain⟨Ls,fo⟩:∃Ls,Ls=S.length:=⟨_,rfl⟩
   obtain⟨base,lH⟩:∃base,base=NB*Ll (Hn (CD n)) a.ts k+k*WB':=⟨_,rfl⟩
   rw[<-lH] at xu;simp[ak,hlb];rw[<-fo]
   let J2:Nat->List D->A1->Prop:=fun q fr T=>∃j L nn o b28,fr=B0 52 [(1,As (n+1) b),(4,.top),(5,.top),(6,oi (As n) nn L o),(8,.bx Ls 0),(19,As (n+1) a),(20,.i .i64 a.ts.length),(21,.i .i64 (k:Nat)),(22,.top),(25,As (n+1) b),(26,.i .i64 b.ts.length),(27,.i .i64 (j:Nat)),(28,b28)]/\j+q=b.ts.length/\Mj T nn L.length o/\(∀p,p∈L->Nu n a.ts b.ts p) /\
    L.length<=k*30+j/\(L.map (Hn (CD n))).sum<=base+j*Hn (CD n) x+Ll (Hn (CD n)) b.ts j/\(nn=true->L=[])/\AA T Ls=some (.box (Cj (As n) x))
   refine AW J2 ?_ b.ts.length _ _ ⟨0,L,nn,o,_,rfl,by simp,hL.push _,yQ,by omega,by simp;omega,hnn,by rw[fo];simp⟩;intro q2 fr T hJ;obtain⟨j,L,nn,o,b28,C7,hj,hL,yQ,hlen,xu,hnn,hT⟩:=hJ;rw[C7];rw[<-Ay,e20_0];simp[s20_0];split<;>rename_i h2
   .obtain⟨y,hy⟩:=AZ (l:=b.ts) (k:=j) h2;have hym:=gC hy;have ky:=kb.ts y hym;have cy:=cb y hym;have wy:=PY (x:=b) (w:=CD n) wb hym;have hib:Ak 2 (As (n+1) b) (.i .i64 j)=some (.el (Cj (As n) y) 0):=Bn (As n) .i64 hy;have fx:=Xo wx;have fy:=Xo wy;obtain⟨cx',hcx⟩:∃c:Nat,x.c=c:=⟨x.c.toNat,by omega⟩
    obtain⟨cy',hcy⟩:∃c:Nat,y.c=c:=⟨y.c.toNat,by omega⟩
    obtain⟨z,g1,g2,g3⟩:=v63 cx' cy' (by omega) (by omega);obtain⟨m,g4,g5⟩:=v64 (c:=Ey n) (ok:=Bf n) (Az n) (uG n) x.nl y.nl x.fs y.fs kx.fs (by omega);obtain⟨p,hp⟩:∃p:Tm (Eu n),p = { c:=z,nl:=m,fs:=BS (Ey n) x.fs y.fs }:=⟨_,rfl⟩
    have CF:¬Ls=T.length:=by have:=AJ hT;omega
    have hb:B8 [.i .i64 0,.sl 11 true [] .ro] [(0,1,false,.i .i64 z),(1,1,false,BI (As n) m (BS (Ey n) x.fs y.fs))]=some (Cj (As n) p):=by rw[hp];rfl
    have fp:AV 2 true [.agg (Cj (As n) p)]=some [Cj (As n) p]:=by simp[AV]
    have hpo:Nu n a.ts b.ts p:=⟨x,hxm,y,hym,by rw[hp],by rw[hp];exact g5,by rw[hp];simp;omega,by rw[hp];simp;omega⟩
    have xW:=qO (p:=p) (x:=x) (y:=y) (by rw[hp]) (CD n);obtain⟨o2,T3,a1,a2,a3⟩:=vn (hL.push (B9.box (Cj (As n) y))) p (by omega);simp[hib,hT,CF,hcx,hcy,g1,g4,hb,fp];rw[a1];simp only[A5];rw[Bz (k:=j) (by unfold Bd;omega)];refine⟨q2-1,by omega,j+1,L++[p],false,o2,_,rfl,by omega,a2,?_,by simp;omega,?_,by simp,a3 _ _ (AM hT)⟩
    .intro r hr;rcases List.mem_append.1 hr with hr|hr
     .exact yQ r hr
     .obtain rfl:=List.mem_singleton.1 hr;exact hpo
    .rw[H6 _ hy,add_mul];simp;omega
   .have hjb:j=NB:=by omega
    simp only[e20_r0,uL,Ad,Av,GP,EB,A5];rw[Bz (k:=k) (by unfold Bd;omega)];rw[JJ (Hn (CD n)) (by omega),<-hWB] at xu;refine⟨q-1,by omega,k+1,L,nn,o,_,_,_,_,_,_,rfl,by omega,hL,yQ,by rw[add_mul];omega,?_,hnn⟩;rw[H6 _ hx,Nat.mul_add,add_mul];rw[lH,hjb] at xu;omega
  .rw[JJ (Hn (CD n)) (by omega)] at xu
   have hw18:(L.map (Hn (CD n))).sum<=1800:=by have h1:NB*(a.ts.map (Hn (CD n))).sum<=30*30:=mul_le_mul (by omega) wa;have h2:k*WB'<=30*30:=mul_le_mul (by omega) hWB30;omega
   have hl9:L.length<=900:=by have:k*30<=30*30:=Nat.mul_le_mul_right _ (by omega);omega
   have xW:∀p,p∈L->Hn (CD n) p<=60/\p.fs.length<=60/\My (Bf n) p/\ShTm (VK n) p:=by
    intro p hp;obtain⟨x,hx,y,hy,h1,h2,h3,h4⟩:=yQ p hp;have q1:=qO h1 (CD n);have q2:=PY (x:=a) (w:=CD n) wa hx;have q3:=PY (x:=b) (w:=CD n) wb hy;have q4:Hn (CD n) p<=60:=by omega
    have q5:=Xo q4;refine⟨q4,q5,AA8 (yQ p hp) ka.ts kb.ts (by omega),?_⟩;intro f hf;rw[h1] at hf;exact Pk (P:=lN (VK n)) (fun f z hf=>⟨hf.args,hf.items,hf.kind⟩) _ _ (sa x hx) (sb y hy) f hf
   obtain⟨n2,R',g1,g2,g3,g4,g5⟩:=v66 (e:=As n) (w:=CD n) (qR n) (Az n) (uG n) (gi n) (YW n) nn L (by omega) (fun t ht=>⟨(xW t ht).2.2.1,by
     obtain⟨_,_,_,_,_,_,h3,h4⟩:=yQ t ht;exact⟨h3,h4⟩⟩) (fun t ht=>v120A n t.nl t.fs (xW t ht).2.2.1.fs (xW t ht).2.2.2 (by
     have:=(xW t ht).1
     simp only[Hn] at this;omega))
   have e66:A0 (call dp) 66 [oi (As n) nn L o]=some (Gx (As n) n2 R'):=by rw[Ci];exact g1
   obtain⟨RR,hRR⟩:∃RR:An (Eu n),RR = { nl:=n2,ts:=R' }:=⟨_,rfl⟩
   have kR:Hd (Bf n) RR:=by rw[hRR];exact⟨g2,by unfold Bi;simp;omega,fun t ht=>(g5 t ht).ok fun t' ai=>(xW t' ai).2.2.1⟩
   have wR:Sy (CD n) RR<=1800:=by rw[hRR];show(R'.map (Hn (CD n))).sum<=1800;omega
   have e65:=v65 n RR kR (le_trans wR (by omega));have e65':A0 (call dp) 65 [Gx (As n) n2 R']=some (if me n RR=true then .AY [As (n+1) (Gd (n+1) RR),.i .i64 0] else .AY [.sl 2 true [] .ro,.i .i64 6]):=by rw[<-e65,hRR];rfl
   have fin:∀t,t∈RR.ts->∃p,Nu n a.ts b.ts p/\t.fs=p.fs:=by intro t ht;rw[hRR] at ht;obtain⟨p,hp,h1,_⟩:=g5 t ht;exact⟨p,yQ p hp,h1⟩
   rw[<-hR];simp only[Ad,e20_r1,pY,e66,A5,e65'];have Er:=hg.strip (Gd (n+1) RR);cases hf:me n RR with
   |true=>
    have:P (.AY [As (n+1) (Gd (n+1) RR),.i .i64 0]) S:=by rw[<-hP];refine .inr (.inr ⟨RR,?_,kR,wR,fin⟩);simp[Ae,stripL,Er]
    simpa using this
   |false=>
    have:P (.AY [.sl 2 true [] .ro,.i .i64 6]) S:=by rw[<-hP];exact .inr (.inl rfl)
    simpa using this
 .cases oZ:(oz (n+1)).V a with
  |false=>
   rw[oZ] at Va;simp[s20,Va];rfl
  |true=>
   have pG:(oz (n+1)).V b=false:=by
    cases q:(oz (n+1)).V b with
    |false=>rfl
    |true=>exact absurd ⟨oZ,q⟩ hv
   rw[oZ] at Va;rw[pG] at Vb;simp[s20,Va,Vb];rfl
end
section
variable {Z:Type}{cp:Z->Z}
theorem pM{ok:Z->Prop}(h:∀a,ok a->ok (cp a)){f:Fc Z}(hf:KU ok f):KU ok (Gy cp f):=
 ⟨hf.kind,hf.row,fun q=>by simp[Gy,hf.NG q],by simpa[Gy] using hf.OG,fun a ha=>by
  simp only[Gy,mem_map] at ha;obtain⟨b,hb,rfl⟩:=ha;exact h b (hf.args b hb),hf.fn,fun q=>by simp[Gy,hf.inl q],by simpa[Gy] using hf.NH,fun p hp=>by
  simp only[Gy,mem_map] at hp;obtain⟨b,hb,rfl⟩:=hp
  exact⟨(hf.items b hb).1,h b.2 (hf.items b hb).2⟩,hf.op,hf.bound,hf.exp⟩
theorem qx{ok:Z->Prop}(h:∀a,ok a->ok (cp a)){x:An Z}(hx:Hd ok x):Hd ok (Pe cp x):=
 ⟨fun q=>by simp[Pe] at q ⊢;exact q,by simpa[Pe] using hx.len,fun t ht=>by
  simp only[Pe,mem_map] at ht;obtain⟨s,hs,rfl⟩:=ht;have k:=hx.ts s hs
  exact⟨k.c,fun q=>by simp[Ks,k.nl q],by simpa[Ks] using k.len,fun f hf=>by
   simp only[Ks,mem_map] at hf;obtain⟨g,hg,rfl⟩:=hf
   exact pM h (k.fs g hg)⟩⟩
theorem AAD{w:Z->Nat}(h:∀a,w (cp a)=w a)(f:Fc Z):Kw w (Gy cp f)=Kw w f:=by
 simp only[Kw,Gy,length_map,map_map];congr 1
 .congr 1;exact congrArg List.sum (map_congr_left fun a _=>h a)
 .exact congrArg List.sum (map_congr_left fun p _=>by simp[jS,UN,h])
theorem zG{w:Z->Nat}(h:∀a,w (cp a)=w a)(x:An Z):Sy w (Pe cp x)=Sy w x:=by simp only[Sy,Pe,map_map];refine congrArg List.sum (map_congr_left fun t _=>?_);simp only[Function.comp,Hn,Ks,length_map,map_map];congr 1;exact congrArg List.sum (map_congr_left fun f _=>AAD h f)
theorem uC{v:Z->List Row}(h:∀a,v (cp a)=v a)(f:Fc Z):Ej v (Gy cp f)=Ej v f:=by
 have h1:∀l:List Z,(l.map cp).flatMap v=l.flatMap v:=fun l=>by induction l with
  |nil=>rfl
  |cons a l ih=>simp[h,ih]
 have h2:∀l:List (Vl × Z),(l.map (UN cp)).flatMap (Mz v)=l.flatMap (Mz v):=fun l=>by induction l with
  |nil=>rfl
  |cons a l ih=>simp[Mz,UN,h,ih]<;>exact ih
 simp only[Ej,Gy,h1,h2];rfl
theorem sE{v:Z->List Row}(h:∀a,v (cp a)=v a)(x:An Z):Kv v (Pe cp x)=Kv v x:=by
 have h1:∀l:List (Fc Z),(l.map (Gy cp)).flatMap (Ej v)=l.flatMap (Ej v):=fun l=>by induction l with
  |nil=>rfl
  |cons a l ih=>simp[uC h,ih]
 have h2:∀l:List (Tm Z),(l.map (Ks cp)).flatMap (JC v)=l.flatMap (JC v):=fun l=>by induction l with
  |nil=>rfl
  |cons a l ih=>simp[JC,Ks,h1,ih]
 simp only[Kv,Pe,h2]
end
theorem re:∀n (x:Eu n),Bf n x->Bf n (Gd n x)
 |0,x,_=>nomatch x
 |n+1,_,h=>qx (re n) h
theorem cp_w:∀n (x:Eu n),CD n (Gd n x)=CD n x
 |0,x=>nomatch x
 |n+1,x=>zG (cp_w n) x
theorem sk:∀n (x:Eu n),CV n (Gd n x)=CV n x
 |0,x=>nomatch x
 |n+1,x=>sE (sk n) x
section
variable {Z:Type}(e:Z->D)
def Pa:An Z:={ nl:=false,ts:=[{ c:=1,nl:=true,fs:=[] }] }
theorem v76:A0 (call dp) 76 []=some (CL e Pa):=by apply i76 _ rfl rfl;rfl
def ET(f:Fc Z):An Z:={ nl:=false,ts:=[{ c:=1,nl:=false,fs:=[{ f with exp:=1 }] }] }
theorem v78(he:GE e)(f:Fc Z):A0 (call dp) 78 [.agg (GZ e f)]=some (CL e (ET f)):=by apply i78 _ _ (by simp[A9,Ec he]) (Bj he _);have hb:B8 [.i .i64 0,.i .i64 0,.i .i64 0,.sl 1 true [] .ro,.i .i64 0,.sl 4 true [] .ro,.i .i64 0,.i .i64 0,.i .i64 0,.s [],.i .i64 0] [(0,10,true,.agg (GZ e f)),(10,1,false,.i .i64 1)]=some (EF e { f with exp:=1 }):=rfl;have hc:AV 11 true [.agg (EF e { f with exp:=1 })]=some [EF e { f with exp:=1 }]:=rfl;simp[s78,hb,hc];rfl
end
def Co{Z:Type}(a:Z):Fc Z:={ kind:=3,row:=(0,0),NG:=false,args:=[a],fn:=0,inl:=true,items:=[],op:=0,bound:={ kind:=0,int:=0,text:=[] },exp:=0 }
theorem okX{n:Nat}(a:Eu (n+1))(ka:Bf (n+1) a):Bf (n+2) (ET (Co a)):=by refine⟨fun q=>by simp[ET] at q,by simp[ET,Bi],fun t ht=>?_⟩;simp only[ET,mem_singleton] at ht;subst ht;refine⟨⟨by simp,by simp⟩,fun q=>by simp at q,by simp[Bi],fun f hf=>?_⟩;simp only[mem_singleton] at hf;subst hf;exact⟨⟨by simp[Co],by simp[Co]⟩,⟨⟨by simp[Co],by simp[Co]⟩,⟨by simp[Co],by simp[Co]⟩⟩,fun q=>by simp[Co] at q,by simp[Co,Bi],fun b hb=>by simp[Co] at hb;subst hb;exact ka,⟨by simp[Co],by simp[Co]⟩,fun _=>rfl,by simp[Co,Bi],fun p hp=>by simp[Co] at hp,⟨by simp[Co],by simp[Co]⟩,⟨⟨by simp[Co],by simp[Co]⟩,⟨by simp[Co],by simp[Co]⟩,by simp[Co,Bi]⟩,⟨by simp,by simp⟩⟩
theorem v26(n:Nat)(a:Eu (n+1))(ka:Bf (n+1) a)(wa:CD (n+1) a<=30) :
  ∃r,A0 (call dp) 26 [As (n+1) a]=some r/\(r=.AY [.sl 2 true [] .ro,.i .i64 1]\/r=.AY [.sl 2 true [] .ro,.i .i64 6]\/(a.ts=[]/\r=.AY [As (n+1) Pa,.i .i64 0])\/((∃t,t∈a.ts/\t.fs=[])/\r=.AY [.sl 2 true [] .ro,.i .i64 0]) \/
   r=.AY [As (n+2) (Gd (n+2) (ET (Co a))),.i .i64 0]):=by
 have hg:=Az (n+1);have xt:=hg.strip a;have Va:=(Yl (n+1)).V a ka;have hc:=v77 (Az n) a (Hd.len ka);have hc:A0 (call dp) 77 [As (n+1) a]=some (.b (Qk a)):=hc;have yN:AK false (As (n+1) a)=some (.i .i64 a.ts.length):=M4 (As n) a;have h76:A0 (call dp) 76 []=some (As (n+1) Pa):=v76 (As n);have h78:=v78 (As (n+1)) hg (Co a);have kX:=okX a ka
 have wX:CD (n+2) (ET (Co a))=3+CD (n+1) a:=by show Sy (CD (n+1)) (ET (Co a))=_;simp[Sy,ET,Hn,Kw,Co];omega
 have h65:=v65 (n+1) (ET (Co a)) kX (by have h:CD (n+1+1) (ET (Co a))=_:=wX;omega);have h65:A0 (call dp) 65 [CL (As (n+1)) (ET (Co a))]=_:=h65
 apply j26 _ _ (by simp[A9,xt,hg.AG]) (by
  rintro r (rfl|rfl|⟨_,rfl⟩|⟨_,rfl⟩|rfl)
  .rfl
  .rfl
  .simp only[DE.AG,A9,Bool.and_true];exact hg.AG _
  .rfl
  .simp only[DE.AG,A9,Bool.and_true];exact(Az (n+2)).AG _)
 rw[xt];cases oZ:(oz (n+1)).V a with
 |false=>
  rw[oZ] at Va;simp[s26,Va];rfl
 |true=>
  rw[oZ] at Va;by_cases h0:a.ts=[]
  .simp[s26,Va,yN,h0,h76];exact .inl (hg.strip _)
  .have h0':¬((a.ts.length:Int)=0):=by intro q;exact h0 (List.length_eq_zero_iff.1 (by omega))
   simp[s26,Va,yN,h0,hc];cases hC:Qk a with
   |true=>
    simp only[if_true];refine .inl ⟨?_,rfl⟩;simp only[Qk,any_eq_true,decide_eq_true_eq] at hC;obtain⟨t,h1,h2⟩:=hC;exact⟨t,h1,List.length_eq_zero_iff.1 h2⟩
   |false=>
    have fp:AV 1 false [As (n+1) a]=some [[As (n+1) a]]:=by simp[AV,Am,hg.cell]
    have hb:B8 [.i .i64 0,.i .i64 0,.i .i64 0,.sl 1 true [] .ro,.i .i64 0,.sl 4 true [] .ro,.i .i64 0,.i .i64 0,.i .i64 0,.s []] [(0,1,false,.i .i64 3),(3,1,false,.sl 1 false [[As (n+1) a]] .ro)]=some (GZ (As (n+1)) (Co a)):=rfl;simp only[Bool.false_eq_true,if_false,fp,hb,A5,h78,h65];cases me (n+1) (ET (Co a)) with
    |true=>
     simp[(Az (n+2)).strip]
    |false=>
     simp;rfl
open Go
theorem v244(a b:Int):A0 (call dp) 244 [.i .i64 a,.i .i64 b]=some (.i .i64 (CR a b)):=by
 apply i244 _ _ _ rfl rfl;simp[s244];rcases JM a b with⟨h,e⟩|⟨h,e⟩|⟨h,e⟩<;>rw[e]
 .simp[h]
 .simp[h]
 .have:¬a<b:=by omega
  simp[h,this]
theorem v165(r s:Row):A0 (call dp) 165 [.agg (Ar r),.agg (Ar s)]=some (.i .i64 (YL [CR r.1 s.1,CR r.2 s.2])):=by apply i165 _ _ _ rfl rfl;simp[s165,v244,YL];by_cases h:CR r.1 s.1=0<;>simp[h]
theorem uO{nl:Bool}{l:List Row}{i:Nat}(h:i<=l.length):GG 2 (AN nl l) none (some (.i .i64 (i:Nat)))=some (AN nl (l.take i)):=by simp only[GG,AN,if_true,bounds,length_map];rw[if_pos ⟨by omega,by omega⟩];simp
theorem tQ{nl:Bool}{l:List Row}{i:Nat}(h:i<=l.length):GG 2 (AN nl l) (some (.i .i64 (i:Nat))) none=some (AN nl (l.drop i)):=by simp only[GG,AN,if_true,bounds,length_map];rw[if_pos ⟨by omega,by omega⟩];simp only[toNat_natCast];rw[List.take_of_length_le (by simp)];simp
def po(l:List Row)(r:Row)(d:D):Prop:=∃B3 l',d=AN B3 l'/\(∀q,q∈l'<->q∈l\/q=r)/\l'.length<=l.length+1
theorem v111(nl:Bool)(l:List Row)(r:Row)(hl:l.length<=60000):∃B3 l',A0 (call dp) 111 [AN nl l,.agg (Ar r)]=some (AN B3 l')/\(∀q,q∈l'<->q∈l\/q=r)/\l'.length<=l.length+1:=by
 suffices hh:∃d,A0 (call dp) 111 [AN nl l,.agg (Ar r)]=some d/\po l r d by obtain⟨d,h1,B3,l',rfl,h2⟩:=hh;exact⟨B3,l',h1,h2⟩
 apply j111 _ _ _ (by simp[A9]) (by rintro d ⟨B3,l',rfl,_⟩;simp);simp[s111]
 let J:Nat->List D->A1->Prop:=fun q fr S=>∃i b4 b18,fr=B0 46 [(0,AN nl l),(3,.bx 0 0),(4,b4),(5,.i .i64 (i:Nat)),(18,b18)]/\i+q=l.length/\S=[B9.box (Ar r)]
 refine AW J ?_ l.length _ _ ⟨0,_,_,rfl,by simp,rfl⟩;intro q fr S hJ;obtain⟨i,b4,b18,C7,hi,hS⟩:=hJ;rw[C7];subst hS;rw[<-Ay,e111_0]
 have fin:∀b18:D,wp (call dp) RG (B0 46 [(0,AN nl l),(3,.bx 0 0),(4,b4),(5,.i .i64 (i:Nat)),(18,b18)]) [B9.box (Ar r)] (Aw [.t 4] fun d _=>po l r (Ae d)):=by
  intro b18;have s1:=uO (nl:=nl) (l:=l) (i:=i) (by omega);have s2:=tQ (nl:=nl) (l:=l) (i:=i) (by omega);have UY:∀q,q∈l<->q∈l.take i\/q∈l.drop i:=fun q=>by rw[<-mem_append,List.take_append_drop]
  have hlen:(l.take i).length+(l.drop i).length=l.length:=by rw[List.length_take,List.length_drop];omega
  generalize l.take i=A at *;generalize l.drop i=B at *;obtain⟨XA,hXA⟩:∃XA,XA=A.map Ar:=⟨_,rfl⟩
  obtain⟨XB,hXB⟩:∃XB,XB=B.map Ar:=⟨_,rfl⟩
  have lA:XA.length=A.length:=by rw[hXA];simp
  have lB:XB.length=B.length:=by rw[hXB];simp
  have eA:AN nl A=.sl 2 nl XA .ro:=by rw[hXA];rfl
  have eB:AN nl B=.sl 2 nl XB .ro:=by rw[hXB];rfl
  rw[eA] at s1;rw[eB] at s2
  have done:∀k,po l r (Ae (.sl 2 false (XA++[Ar r]++XB) (.tok k))):=by
   intro k;refine⟨false,A++[r]++B,?_,?_,by simp;omega⟩
   .rw[hXA,hXB];show D.sl 2 false _ .ro=_;simp[AN]
   .intro q;rw[UY q];simp only[mem_append,mem_singleton];constructor
    .rintro((h|h)|h)
     .exact .inl (.inl h)
     .exact .inr h
     .exact .inl (.inr h)
    .rintro((h|h)|h)
     .exact .inl (.inl h)
     .exact .inr h
     .exact .inl (.inr h)
  have same:r∈l->po l r (AN nl l):=fun hr=>⟨nl,l,rfl,fun q=>⟨.inl,fun h=>h.elim id (fun e=>e▸hr)⟩,by omega⟩
  have puts:∃p:D×A1,Be 2 false (.sl 2 false [] .G4) (.sl 2 nl XA .ro) [B9.box (Ar r)]=some p/\AA p.2 0=some (.box (Ar r))/\∃p2:D×A1,Be 2 false p.1 (.sl 2 false [Ar r] .ro) p.2=some p2/\∃p3:D×A1,Be 2 false p2.1 (.sl 2 nl XB .ro) p2.2=some p3/\po l r (Ae p3.1):=by
   by_cases hn:XA=[]
   .refine⟨_,MB _ (by rw[hn];simp[AP]),?_,?_⟩
    .rw[if_pos hn];rfl
    .rw[if_pos hn];refine⟨_,MB _ (by simp[AP]),?_⟩;rw[if_neg (by simp)];refine⟨_,Mr (t:=1) _ (by simp[AP];omega) rfl,?_⟩;have:=done 2;rw[hn,List.nil_append] at this;exact this
   .refine⟨_,MB _ (by simp only[AP];omega),?_,?_⟩
    .rw[if_neg hn];rfl
    .rw[if_neg hn];refine⟨_,Mr (t:=1) _ (by simp[AP];omega) rfl,?_⟩;refine⟨_,Mr (t:=2) _ (by simp[AP];omega) rfl,?_⟩;exact done _
  obtain⟨p,q1,q2,p2,q3,p3,q4,q5⟩:=puts;rw[zW];by_cases pI:i<l.length
  .obtain⟨x,hx⟩:=AZ pI;by_cases hxr:x=r
   .simp[RM,pI,Ee _ hx,hxr];exact same (hxr▸gC hx)
   .simp[RM,pI,Ee _ hx,hxr,s1,s2,q1,q2,q3,q4];exact q5
  .simp[RM,pI,s1,s2,q1,q2,q3,q4];exact q5
 by_cases pI:i<l.length
 .obtain⟨x,hx⟩:=AZ pI;have e165:=v165 x r;by_cases Ap:YL [CR x.1 r.1,CR x.2 r.2]<0
  .simp[XY,pI,Ee _ hx,e165,Ap];rw[Bz (k:=i) (by unfold Bd;omega)];exact⟨q-1,by omega,⟨i+1,_,_,rfl,by omega,rfl⟩⟩
  .simp[XY,pI,Ee _ hx,e165,Ap];exact fin _
 .simp[XY,pI];exact fin _
theorem v111'(nl:Bool)(l:List Row)(o:JB)(r:Row)(hl:l.length<=60000):∃B3 l',A0 (call dp) 111 [.sl 2 nl (l.map Ar) o,.agg (Ar r)]=some (AN B3 l')/\(∀q,q∈l'<->q∈l\/q=r)/\l'.length<=l.length+1:=by obtain⟨a,b,c,d⟩:=v111 nl l r hl;exact⟨a,b,by rw[Ci] at c ⊢;exact c,d⟩
def RwsP(l m:List Row)(d:D):Prop:=∃B3 l',d=AN B3 l'/\(∀q,q∈l'<->q∈l\/q∈m)/\l'.length<=l.length+m.length
theorem v112(nl B3:Bool)(l m:List Row)(hl:l.length+m.length<=60000):∃nn L,A0 (call dp) 112 [AN nl l,AN B3 m]=some (AN nn L)/\(∀q,q∈L<->q∈l\/q∈m)/\L.length<=l.length+m.length:=by
 suffices hh:∃d,A0 (call dp) 112 [AN nl l,AN B3 m]=some d/\RwsP l m d by obtain⟨d,h1,nn,L,rfl,h2⟩:=hh;exact⟨nn,L,h1,h2⟩
 apply j112 _ _ _ (by simp[A9]) (by rintro d ⟨nn,L,rfl,_⟩;simp);simp[s112]
 let J:Nat->List D->A1->Prop:=fun q fr S=>∃i nn L b4 b9,fr=B0 19 [(0,AN nn L),(1,AN B3 m),(4,b4),(5,.i .i64 (i:Nat)),(9,b9)]/\i+q=m.length/\(∀r,r∈L<->r∈l\/r∈m.take i)/\List.length L<=l.length+i
 refine AW J ?_ m.length _ _ ⟨0,nl,l,_,_,rfl,by simp,by simp,by omega⟩;intro q fr S hJ;obtain⟨i,nn,L,b4,b9,C7,hi,hm,hl⟩:=hJ;rw[C7];rw[<-Ay,e112_0];simp[rI];split<;>rename_i h
 .obtain⟨r,hr⟩:=AZ (l:=m) (k:=i) (by omega);obtain⟨n2,L2,c,h1,h2⟩:=v111 nn L r (by omega);simp[Ee _ hr,c];rw[Bz (k:=i) (by unfold Bd;omega)];refine⟨q-1,by omega,⟨i+1,n2,L2,_,_,rfl,by omega,fun q'=>?_,by omega⟩⟩;rw[h1,hm,BV hr,mem_append,mem_singleton];constructor
  .rintro((h|h)|h)
   .exact .inl h
   .exact .inr (.inl h)
   .exact .inr (.inr h)
  .rintro(h|h|h)
   .exact .inl (.inl h)
   .exact .inl (.inr h)
   .exact .inr h
 .rw[List.take_of_length_le (by omega)] at hm;simp[e112_r0,gP];exact⟨nn,L,rfl,hm,by omega⟩
theorem v112'(nl:Bool)(l:List Row)(o:JB)(B3:Bool)(m:List Row)(hl:l.length+m.length<=60000):∃nn L,A0 (call dp) 112 [.sl 2 nl (l.map Ar) o,AN B3 m]=some (AN nn L)/\(∀q,q∈L<->q∈l\/q∈m)/\L.length<=l.length+m.length:=by obtain⟨a,b,c,d⟩:=v112 nl B3 l m hl;exact⟨a,b,by rw[Ci] at c ⊢;exact c,d⟩
def K3(L M:List Row):Prop:=(∀r,r∈L<->r∈M)/\L.length<=M.length
theorem K3.put{L M L':List Row}{r:Row}(h:K3 L M)(h1:∀q,q∈L'<->q∈L\/q=r)(h2:L'.length<=L.length+1):K3 L' (M++[r]):=
 ⟨fun q=>by rw[h1,h.1];simp,by have:=h.2;simp;omega⟩
theorem K3.rows{L M L' B N:List Row}(h:K3 L M)(k:K3 B N)(h1:∀q,q∈L'<->q∈L\/q∈B)(h2:L'.length<=L.length+B.length):K3 L' (M++N):=
 ⟨fun q=>by rw[h1,h.1,k.1];simp,by have:=h.2;have:=k.2;simp;omega⟩
def VarP(M:List Row)(d:D):Prop:=∃nl L,d=AN nl L/\K3 L M
def vW{Z:Type}(e:Z->D)(ok:Z->Prop)(v:Z->List Row):Prop:=∀a,ok a->(v a).length<=60000->∃nl L,A0 (call dp) 61 [e a]=some (AN nl L)/\K3 L (v a)
set_option maxHeartbeats 1000000 in
theorem v61s{Z:Type}{e:Z->D}{ok:Z->Prop}{v:Z->List Row}(he:GE e)(H:vW e ok v):vW (CL e) (Hd ok) (Kv v):=by
 intro x hx hlen
 suffices hh:∃d,A0 (call dp) 61 [CL e x]=some d/\VarP (Kv v x) d by obtain⟨d,h1,nl,L,rfl,h2⟩:=hh;exact⟨nl,L,h1,h2⟩
 apply j61 _ _ (by simp[A9,Bj he]) (by rintro d ⟨nl,L,rfl,_⟩;simp);simp only[s61,Ma,H8,A5,Ru]
 let J:Nat->List D->A1->Prop:=fun q fr S=>∃k nn L o b2 b5 b6 b7 b8 b13 b23 b46 b61,fr=B0 74 [(0,CL e x),(2,b2),(3,.sl 2 nn (List.map Ar L) o),(4,.i .i64 (k:Nat)),(5,b5),(6,b6),(7,b7),(8,b8),(13,b13),(23,b23),(46,b46),(61,b61)]/\k+q=x.ts.length/\K3 L (K6 (JC v) x.ts k)
 refine AW J ?_ x.ts.length _ _ ⟨0,false,[],.G4,_,_,_,_,_,_,_,_,_,rfl,by simp,⟨fun r=>by simp[K6],by simp⟩⟩;intro q fr S hJ;obtain⟨k,nn,L,o,b2,b5,b6,b7,b8,b13,b23,b46,b61,C7,hk,hs⟩:=hJ;rw[C7];rw[<-Ay,e61_3];simp[s61_3];split
 .rename_i h;obtain⟨t,ht⟩:=AZ (l:=x.ts) (k:=k) (by omega);have Lp:=hx.ts t (gC ht);have hz:=HN (JC v) ht;have hz':(x.ts.flatMap (JC v)).length=(Kv v x).length:=rfl;obtain⟨M,hM⟩:∃M,M=K6 (JC v) x.ts k:=⟨_,rfl⟩
  rw[<-hM] at hs hz
  let J2:Nat->List D->A1->Prop:=fun q fr S=>∃i nn L o b2 b6 b7 b8 b13 b23 b46 b61,fr=B0 74 [(0,CL e x),(2,b2),(3,.sl 2 nn (List.map Ar L) o),(4,.i .i64 (k:Nat)),(5,.i .i64 (i:Nat)),(6,b6),(7,b7),(8,b8),(13,b13),(23,b23),(46,b46),(61,b61)]/\i+q=t.fs.length/\K3 L (M++K6 (Ej v) t.fs i)
  refine AW J2 ?_ t.fs.length _ _ ⟨0,nn,L,o,_,_,_,_,_,_,_,_,rfl,by simp,by simpa[K6] using hs⟩;intro q2 fr S hJ;obtain⟨i,nn,L,o,b2,b6,b7,b8,b13,b23,b46,b61,C7,hi,Ro⟩:=hJ;rw[C7];rw[<-Ay,e61_2];simp[s61_2,Bn e _ ht];split
  .rename_i h2;obtain⟨f,hf⟩:=AZ (l:=t.fs) (k:=i) (by omega);have KB:=Lp.fs f (gC hf);have hz2:=HN (Ej v) hf;have hz2':(t.fs.flatMap (Ej v)).length=(JC v t).length:=rfl;obtain⟨K0,xp⟩:∃K0:List Row,K0=if f.kind=0 then[f.row] else[]:=⟨_,rfl⟩
   have hz3:(Ej v f).length=K0.length+((f.args.flatMap v).length+(f.items.flatMap (Mz v)).length):=by rw[Ej,<-xp];simp
   obtain⟨id,hid⟩:∃id,id=S.length:=⟨_,rfl⟩
   obtain⟨M2,hM2⟩:∃M2,M2=M++K6 (Ej v) t.fs i++K0:=⟨_,rfl⟩
   have hM2l:M2.length=M.length+(K6 (Ej v) t.fs i).length+K0.length:=by rw[hM2];simp only[length_append]
   have hs2l:=Ro.2
   have body:∀nn L o b23,K3 L M2->W (call dp) (.loop [] kc) (B0 74 [(0,CL e x),(2,b2),(3,.sl 2 nn (List.map Ar L) o),(4,.i .i64 (k:Nat)),(5,.i .i64 (i:Nat)),(6,.bx id 0),(7,.i .i64 0),(8,b8),(13,b13),(23,b23),(46,b46),(61,b61)]) (B9.box (GZ e f)::S)
     (Af 4 (QS (call dp) W5 (Af 3 (QS (call dp) Y1 (KE (fun Au S'=>∃m',m'<q2/\J2 m' Au S') (Af 2 (Af 1 (QS (call dp) WN (KE (fun Au S'=>∃m',m'<q/\J m' Au S') (Af 0 (QS (call dp) Wv (Aw [.t 2] fun d _=>VarP (Kv v x) (Ae d))))))))))))):=by
    intro nn L o b23 hsL
    let J3:Nat->List D->A1->Prop:=fun q fr S=>∃j nn L o b2 b8 b13 b23 b46 b61,fr=B0 74 [(0,CL e x),(2,b2),(3,.sl 2 nn (List.map Ar L) o),(4,.i .i64 (k:Nat)),(5,.i .i64 (i:Nat)),(6,.bx id 0),(7,.i .i64 (j:Nat)),(8,b8),(13,b13),(23,b23),(46,b46),(61,b61)]/\j+q=f.args.length/\K3 L (M2++K6 v f.args j)/\AA S id=some (.box (GZ e f))
    refine AW J3 ?_ f.args.length _ _ ⟨0,nn,L,o,_,_,_,_,_,_,rfl,by simp,by simpa[K6] using hsL,by simp[hid]⟩;intro q3 fr S hJ;obtain⟨j,nn,L,o,b2,b8,b13,b23,b46,b61,C7,hj,hs3,hS⟩:=hJ;rw[C7];rw[<-Ay,e61_1];simp[s61_1,hS];split
    .rename_i h3;obtain⟨a,ha⟩:=AZ (l:=f.args) (k:=j) (by omega);have hz4:=HN v ha;have hl3:=hs3.2;simp only[length_append] at hl3 hs2l;obtain⟨n4,B,c1,k1⟩:=H a (KB.args a (gC ha)) (by omega);have hB:=k1.2;obtain⟨n5,L5,c2,k2,k3⟩:=v112' nn L o n4 B (by omega);simp[Bq e _ ha,c1,c2];rw[Br h3 KB.OG];exact⟨q3-1,by omega,⟨j+1,n5,L5,.ro,_,_,_,_,_,_,rfl,by omega,by rw[Eb _ ha,<-append_assoc];exact hs3.rows k1 k2 k3,hS⟩⟩
    .have fk:=HR v (show f.args.length<=j by omega);rw[fk] at hs3;simp[e61_r0,rP];obtain⟨M3,hM3⟩:∃M3,M3=M2++f.args.flatMap v:=⟨_,rfl⟩
     have hM3l:M3.length=M2.length+(f.args.flatMap v).length:=by rw[hM3];simp only[length_append]
     rw[<-hM3] at hs3
     let J4:Nat->List D->A1->Prop:=fun q fr S=>∃j nn L o b2 b7 b13 b23 b46 b61,fr=B0 74 [(0,CL e x),(2,b2),(3,.sl 2 nn (List.map Ar L) o),(4,.i .i64 (k:Nat)),(5,.i .i64 (i:Nat)),(6,.bx id 0),(7,b7),(8,.i .i64 (j:Nat)),(13,b13),(23,b23),(46,b46),(61,b61)]/\j+q=f.items.length/\K3 L (M3++K6 (Mz v) f.items j)/\AA S id=some (.box (GZ e f))
     refine AW J4 ?_ f.items.length _ _ ⟨0,nn,L,o,_,_,_,_,_,_,rfl,by simp,by simpa[K6] using hs3,hS⟩;intro q4 fr S hJ;obtain⟨j,nn,L,o,b2,b7,b13,b23,b46,b61,C7,hj,hs4,hS4⟩:=hJ;rw[C7];rw[<-Ay,e61_0];simp[s61_0,hS4];split
     .rename_i h4;obtain⟨p,hp⟩:=AZ (l:=f.items) (k:=j) (by omega);have hz5:=HN (Mz v) hp;have hz5':(Mz v p).length=(v p.2).length:=rfl;have hl4:=hs4.2;simp only[length_append] at hl4 hs2l;obtain⟨n4,B,c1,k1⟩:=H p.2 (KB.items p (gC hp)).2 (by omega);have hB:=k1.2;obtain⟨n5,L5,c2,k2,k3⟩:=v112' nn L o n4 B (by omega);simp[Bw e _ hp,c1,c2];rw[Br h4 KB.NH];exact⟨q4-1,by omega,⟨j+1,n5,L5,.ro,_,_,_,_,_,_,rfl,by omega,by rw[Eb _ hp,<-append_assoc];exact hs4.rows k1 k2 k3,hS4⟩⟩
     .have fk:=HR (Mz v) (show f.items.length<=j by omega);rw[fk] at hs4;simp[e61_r1,wI];rw[Br h2 Lp.len];refine⟨q2-1,by omega,⟨i+1,nn,L,o,_,_,_,_,_,_,_,_,rfl,by omega,?_⟩⟩;rw[Eb _ hf,Ej,<-xp];rw[hM3,hM2] at hs4;simpa only[append_assoc] using hs4
   by_cases k0:f.kind=0
   .rw[if_pos k0] at xp;simp only[length_append] at hs2l;have hK1:K0.length=1:=by rw[xp];rfl
    obtain⟨n5,L5,c1,k1,k2⟩:=v111' nn L o f.row (by omega);simp[Aq e _ hf,k0,jn,c1];rw[<-hid];exact body n5 L5 .ro _ (by rw[hM2,xp];exact Ro.put k1 k2)
   .rw[if_neg k0] at xp;simp[Aq e _ hf,k0,jn];rw[<-hid];exact body nn L o _ (by rw[hM2,xp,List.append_nil];exact Ro)
  .have fk:=HR (Ej v) (show t.fs.length<=i by omega);rw[fk] at Ro;simp[e61_r2,rj];rw[Br h hx.len];refine⟨q-1,by omega,⟨k+1,nn,L,o,_,_,_,_,_,_,_,_,_,rfl,by omega,?_⟩⟩;rw[Eb _ ht,<-hM];exact Ro
 .have fk:=HR (JC v) (show x.ts.length<=k by omega);rw[fk] at hs;simp only[e61_r3,qu,Av,Ad,Cb];simp;exact⟨nn,L,rfl,hs⟩
theorem v61:∀n,vW (As n) (Bf n) (CV n)
 |0=>fun x=>nomatch x
 |n+1=>v61s (Az n) (v61 n)
def FewV(m:Nat)(p:SA):Prop:=wS p<=40/\∃L:List Row,(∀r,r∈L<->r∈Zr p)/\L.length<=m
theorem v19(m:Nat)(hm:m<=1000)(l:List SA)(hb:l.length<=1000)(Bg:∀p,p∈l->Qc p/\ml p):∃c:Bool,A0 (call dp) 19 [.i .i64 (m:Nat),Bl eS false l]=some (.b c)/\(c=true->∀p,p∈l->FewV m p):=by
 suffices hh:∃d,A0 (call dp) 19 [.i .i64 (m:Nat),Bl eS false l]=some d/\∃c:Bool,d=.b c/\(c=true->∀p,p∈l->FewV m p) by obtain⟨d,h1,c,rfl,h2⟩:=hh;exact⟨c,h1,h2⟩
 apply j19 _ _ _ (by simp[A9,Ed Ke]) (by rintro d ⟨c,rfl,_⟩;rfl);simp[s19];generalize hR:QS (call dp) Ww _=R
 let J:Nat->List D->A1->Prop:=fun q fr S=>∃k b9,fr=B0 29 [(0,.i .i64 (m:Nat)),(1,Bl eS false l),(4,.top),(5,.i .i64 (k:Nat)),(9,b9)]/\k+q=l.length/\∀p,p∈l.take k->FewV m p
 refine AW J ?_ l.length _ _ ⟨0,_,rfl,by simp,by simp⟩;intro q fr S hJ;obtain⟨k,b9,C7,hk,hw⟩:=hJ;rw[C7]
 have bad:R Ex.ret (B0 29 [(0,.top),(1,.top),(4,.b false),(5,.top),(9,.top)]) S:=by rw[<-hR];simp
 rw[<-Ay,e19_0];simp[s19_0];split<;>rename_i h
 .obtain⟨x,hx⟩:=AZ (l:=l) (k:=k) h;have hxm:=gC hx;obtain⟨h1,h2⟩:=Bg x hxm;obtain⟨d,g1,c,rfl,g2⟩:=v25 40 (by omega) [x] (by simp[Bd]) (fun p hp=>by simp at hp;subst hp;exact h1);have g1:A0 (call dp) 25 [.i .i64 40,.sl 1 false [[eS x]] .ro]=some (.b c):=g1;have fp:AV 1 false [eS x]=some [[eS x]]:=by simp[AV,Am,Ke.cell]
  simp[Bq eS _ hx,fp,g1];cases c with
  |false=>
   simp;exact bad
  |true=>
   have hwx:=g2 rfl x (by simp) h2;have oZ:=TI x.1 x.2;obtain⟨nl,L,e1,e2⟩:=v61 x.1 x.2 h1 (by unfold wS at hwx;omega);have e1:A0 (call dp) 61 [eS x]=some (AN nl L):=e1;simp[e1];by_cases hL:m<L.length
   .rw[if_pos hL];exact bad
   .rw[if_neg hL,Bz (k:=k) (by unfold Bd;omega)];refine⟨q-1,by omega,k+1,_,rfl,by omega,fun p hp=>?_⟩;rw[BV hx] at hp;rcases List.mem_append.1 hp with hp|hp
    .exact hw p hp
    .obtain rfl:=List.mem_singleton.1 hp;exact⟨hwx,L,e2.1,by omega⟩
 .rw[List.take_of_length_le (by omega)] at hw;rw[<-hR];simp only[Ad,e19_r0,uH];simp;exact hw
open Go NL
def St(o:Option Fq)(e:Int)(d:D):Prop:=match o with|some q=>e=0/\Rq q d|none=>e=6/\Kx d
theorem St.N0{o:Option Fq}{e:Int}{d:D}(h:St o e d):Kx d:=by
 cases o with
 |none=>exact h.2
 |some q=>exact h.2.N0
theorem RT.split{o:Option Fq}{r:D}(h:RT o 6 r):∃dq e,r=.AY [dq,.i .i64 e]/\St o e dq:=by
 cases o with
 |none=>exact⟨_,_,h,rfl,CP⟩
 |some q=>obtain⟨dq,h,k⟩:=h;exact⟨dq,0,h,rfl,k⟩
theorem Yn(S:A1){d:D}(h:Kx d)(K:D->A1->Prop)(hk:∀x y,Hm (.box [x,y]::S) S.length d->K (.bx S.length 0) (.box [x,y]::S)):Cg 2 true d S K:=by obtain⟨x,y,hc,hq⟩:=Hm.top S h;rw[Pj,hc,A5];exact hk x y hq
theorem fa0(id:Nat):AO 0 (.bx id 0)=some (.bx id 0):=rfl
theorem AAU(e:Int):A4 .neq .num (.i .i64 e) (.i .i64 0)=some (.b (!decide (e=0))):=by rw[JA]
section
variable (g:Nat)(f:Fq->Fq->Option Fq)(Hg:∀a b da db,Rq a da->Rq b db->VQ a->VQ b->∃r,A0 (call dp) g [da,db]=some r/\RT (f a b) 6 r)
include Hg
theorem v93(BW:Nat)(a b:Fq)(da db:D)(S:A1)(hE:J5 S BW 0)(ha:Rq a da)(hb:Rq b db)(va:VQ a)(vb:VQ b) :
  ∃d e S',call dp 93 [.bx BW 0,.fn g [],da,db] S=some (d,S')/\St (f a b) e d/\J5 S' BW e/\C1 S S' BW:=by
 obtain⟨r,er,hr⟩:=Hg a b da db ha hb va vb;obtain⟨dq,e,rfl,Er⟩:=hr.split
 obtain⟨d,S',e1,h⟩:=f93 (.bx BW 0) (.fn g []) da db S (fun d S'=>∃e,St (f a b) e d/\J5 S' BW e/\C1 S S' BW) (by
  unfold s93;refine Yn S ha.N0 _ fun x y q1=>?_;refine Yn _ hb.N0 _ fun u v q2=>?_;have q3:Hm (.box [.sl 1 true [] .ro,.sl 1 true [] .ro]::.box [u,v]::.box [x,y]::S) (S.length+2) Bx:=Hm.nil (.box [u,v]::.box [x,y]::S);have g1:Cx S (.box [.sl 1 true [] .ro,.sl 1 true [] .ro]::.box [u,v]::.box [x,y]::S):=(((Cx.refl S).cons _).cons _).cons _;have yO:Hm (.box [.sl 1 true [] .ro,.sl 1 true [] .ro]::.box [u,v]::.box [x,y]::S) S.length da:=q1.grow (((Cx.refl _).cons (.box [u,v])).cons (.box [.sl 1 true [] .ro,.sl 1 true [] .ro]));have q2':Hm (.box [.sl 1 true [] .ro,.sl 1 true [] .ro]::.box [u,v]::.box [x,y]::S) (S.length+1) db:=q2.grow ((Cx.refl _).cons (.box [.sl 1 true [] .ro,.sl 1 true [] .ro]));have fh:J5 (.box [.sl 1 true [] .ro,.sl 1 true [] .ro]::.box [u,v]::.box [x,y]::S) BW 0:=g1.get hE;have xe:=AJ hE;rw[HY];have l1:List.length (B9.box [x,y]::S)=S.length+1:=rfl;have l2:List.length (B9.box [u,v]::.box [x,y]::S)=S.length+2:=rfl;rw[l2,l1];generalize(B9.box [.sl 1 true [] .ro,.sl 1 true [] .ro]::.box [u,v]::.box [x,y]::S)=S2 at *;obtain⟨S3,e3,hE3,k3⟩:=v94 BW 0 e dq S2 fh Er.N0;rw[if_pos rfl] at e3 hE3;have q4:=k3.q q3 (by omega);obtain⟨S4,e4,q5,l4,k4⟩:=q4.st Er.N0;simp only[Kj,fa0,fh.ld,A5,AAU,decide_true,Bool.not_true,Ac,yO.ld,q2'.ld,SN,List.cons_append,List.nil_append,er,CX,List.getElem?_cons_zero,List.getElem?_cons_succ,e3,e4,q5.CE];refine⟨e,Er,?_,?_⟩
  .show AA S4 BW=_;rw[k4 BW (by omega)];exact hE3
  .have h1:=(g1.keeps BW).trans k3
   exact⟨by rw[l4];exact h1.len,fun j hj CF=>by rw[k4 j (by omega)];exact h1.get j hj CF⟩)
 exact⟨d,h.choose,S',e1,h.choose_spec⟩
omit Hg in
theorem v93e(BW:Nat)(e:Int)(da db:D)(S:A1)(hE:J5 S BW e)(h0:e≠0)(ha:Kx da)(hb:Kx db) :
  ∃S',call dp 93 [.bx BW 0,.fn g [],da,db] S=some (Bx,S')/\J5 S' BW e/\C1 S S' BW:=by
 obtain⟨d,S',e1,rfl,h⟩:=f93 (.bx BW 0) (.fn g []) da db S (fun d S'=>d=Bx/\J5 S' BW e/\C1 S S' BW) (by
  unfold s93;refine Yn S ha _ fun x y q1=>?_;refine Yn _ hb _ fun u v q2=>?_;have q3:Hm (.box [.sl 1 true [] .ro,.sl 1 true [] .ro]::.box [u,v]::.box [x,y]::S) (S.length+2) Bx:=Hm.nil (.box [u,v]::.box [x,y]::S);have g1:Cx S (.box [.sl 1 true [] .ro,.sl 1 true [] .ro]::.box [u,v]::.box [x,y]::S):=(((Cx.refl S).cons _).cons _).cons _;have fh:J5 (.box [.sl 1 true [] .ro,.sl 1 true [] .ro]::.box [u,v]::.box [x,y]::S) BW e:=g1.get hE;have xe:=AJ hE;rw[HY];have l2:List.length (B9.box [u,v]::.box [x,y]::S)=S.length+2:=rfl;rw[l2];generalize(B9.box [.sl 1 true [] .ro,.sl 1 true [] .ro]::.box [u,v]::.box [x,y]::S)=S2 at *;obtain⟨S4,e4,q5,l4,k4⟩:=q3.st CP;simp only[Kj,fa0,fh.ld,A5,AAU,h0,decide_false,Bool.not_false,Al,SC,TH,e4,q5.CE];refine⟨trivial,?_,?_⟩
  .show AA S4 BW=_;rw[k4 BW (by omega)];exact fh
  .have h1:=g1.keeps BW
   exact⟨by rw[l4];exact h1.len,fun j hj CF=>by rw[k4 j (by omega)];exact h1.get j hj CF⟩)
 exact⟨S',e1,h⟩
end
theorem Wm(m g BW:Nat)(da db d:D)(S:A1)(R:D->A1->Prop)(ha:Kx da)(hb:Kx db)(xe:BW<S.length)
  (YJ:∀S1,Cx S S1->∃d S',call dp m [.bx BW 0,.fn g [],da,db] S1=some (d,S')/\Kx d/\C1 S1 S' BW/\(∀OJ,AA OJ BW=AA S' BW->C1 S OJ BW->R d OJ)) :
  (Cg 2 true da S fun x1 S2=>
   Cg 2 true db S2 fun x3 S4=>
   al [.sl 1 true [] .ro,.sl 1 true [] .ro] S4 fun x5 S6=>
   OX (AE S6 2 true x1) fun x7=>
   OX (AE S6 2 true x3) fun x8=>
   OX (call dp m [.bx BW 0,(.fn g []),x7,x8] S6) fun p10=>
   OX (Ax p10.2 2 true x5 p10.1) fun S12=>
   OX (CE S12 2 true x5) fun x13=>R x13 S12):=by
 refine Yn S ha _ fun x y q1=>?_;refine Yn _ hb _ fun u v q2=>?_;have q3:Hm (.box [.sl 1 true [] .ro,.sl 1 true [] .ro]::.box [u,v]::.box [x,y]::S) (S.length+2) Bx:=Hm.nil (.box [u,v]::.box [x,y]::S);have g1:Cx S (.box [.sl 1 true [] .ro,.sl 1 true [] .ro]::.box [u,v]::.box [x,y]::S):=(((Cx.refl S).cons _).cons _).cons _;have yO:Hm (.box [.sl 1 true [] .ro,.sl 1 true [] .ro]::.box [u,v]::.box [x,y]::S) S.length da:=q1.grow (((Cx.refl _).cons (.box [u,v])).cons (.box [.sl 1 true [] .ro,.sl 1 true [] .ro]));have q2':Hm (.box [.sl 1 true [] .ro,.sl 1 true [] .ro]::.box [u,v]::.box [x,y]::S) (S.length+1) db:=q2.grow ((Cx.refl _).cons (.box [.sl 1 true [] .ro,.sl 1 true [] .ro]));rw[HY];have l1:List.length (B9.box [x,y]::S)=S.length+1:=rfl;have l2:List.length (B9.box [u,v]::.box [x,y]::S)=S.length+2:=rfl;rw[l2,l1];generalize(B9.box [.sl 1 true [] .ro,.sl 1 true [] .ro]::.box [u,v]::.box [x,y]::S)=S2 at *;obtain⟨d,S3,e3,hq,k3,hR⟩:=YJ S2 g1;have q4:=k3.q q3 (by omega);obtain⟨S4,e4,q5,l4,k4⟩:=q4.st hq;simp only[yO.ld,q2'.ld,A5,e3,e4,q5.CE];have h1:=(g1.keeps BW).trans k3;exact hR S4 (k4 BW (by omega)) ⟨by rw[l4];exact h1.len,fun j hj CF=>by rw[k4 j (by omega)];exact h1.get j hj CF⟩
theorem v40(BW:Nat)(a b:Fq)(da db:D)(S:A1)(hE:J5 S BW 0)(ha:Rq a da)(hb:Rq b db)(va:VQ a)(vb:VQ b) :
  ∃d e S',call dp 40 [.bx BW 0,da,db] S=some (d,S')/\St (Gn a b) e d/\J5 S' BW e/\C1 S S' BW:=by
 obtain⟨d,S',e1,e,h⟩:=f40 (.bx BW 0) da db S (fun d S'=>∃e,St (Gn a b) e d/\J5 S' BW e/\C1 S S' BW) (by
  unfold s40;refine Wm 93 29 BW da db Bx S _ ha.N0 hb.N0 (AJ hE) ?_;intro S1 hg;obtain⟨d,e,S',h1,h2,h3,h4⟩:=v93 29 Gn v29 BW a b da db S1 (hg.get hE) ha hb va vb
  exact⟨d,S',h1,h2.N0,h4,fun OJ hs hk=>⟨e,h2,by show AA OJ BW=_;rw[hs];exact h3,hk⟩⟩)
 exact⟨d,e,S',e1,h⟩
theorem v40e(BW:Nat)(e:Int)(da db:D)(S:A1)(hE:J5 S BW e)(h0:e≠0)(ha:Kx da)(hb:Kx db) :
  ∃S',call dp 40 [.bx BW 0,da,db] S=some (Bx,S')/\J5 S' BW e/\C1 S S' BW:=by
 obtain⟨d,S',e1,rfl,h⟩:=f40 (.bx BW 0) da db S (fun d S'=>d=Bx/\J5 S' BW e/\C1 S S' BW) (by
  unfold s40;refine Wm 93 29 BW da db Bx S _ ha hb (AJ hE) ?_;intro S1 hg;obtain⟨S',h1,h3,h4⟩:=v93e 29 BW e da db S1 (hg.get hE) h0 ha hb
  exact⟨Bx,S',h1,CP,h4,fun OJ hs hk=>⟨rfl,by show AA OJ BW=_;rw[hs];exact h3,hk⟩⟩)
 exact⟨S',e1,h⟩
theorem v42(BW:Nat)(a b:Fq)(da db:D)(S:A1)(hE:J5 S BW 0)(ha:Rq a da)(hb:Rq b db)(va:VQ a)(vb:VQ b) :
  ∃d e S',call dp 42 [.bx BW 0,da,db] S=some (d,S')/\St (Mw a b) e d/\J5 S' BW e/\C1 S S' BW:=by
 obtain⟨d,S',e1,e,h⟩:=f42 (.bx BW 0) da db S (fun d S'=>∃e,St (Mw a b) e d/\J5 S' BW e/\C1 S S' BW) (by
  unfold s42;refine Wm 93 27 BW da db Bx S _ ha.N0 hb.N0 (AJ hE) ?_;intro S1 hg;obtain⟨d,e,S',h1,h2,h3,h4⟩:=v93 27 Mw v27 BW a b da db S1 (hg.get hE) ha hb va vb
  exact⟨d,S',h1,h2.N0,h4,fun OJ hs hk=>⟨e,h2,by show AA OJ BW=_;rw[hs];exact h3,hk⟩⟩)
 exact⟨d,e,S',e1,h⟩
theorem v42e(BW:Nat)(e:Int)(da db:D)(S:A1)(hE:J5 S BW e)(h0:e≠0)(ha:Kx da)(hb:Kx db) :
  ∃S',call dp 42 [.bx BW 0,da,db] S=some (Bx,S')/\J5 S' BW e/\C1 S S' BW:=by
 obtain⟨d,S',e1,rfl,h⟩:=f42 (.bx BW 0) da db S (fun d S'=>d=Bx/\J5 S' BW e/\C1 S S' BW) (by
  unfold s42;refine Wm 93 27 BW da db Bx S _ ha hb (AJ hE) ?_;intro S1 hg;obtain⟨S',h1,h3,h4⟩:=v93e 27 BW e da db S1 (hg.get hE) h0 ha hb
  exact⟨Bx,S',h1,CP,h4,fun OJ hs hk=>⟨rfl,by show AA OJ BW=_;rw[hs];exact h3,hk⟩⟩)
 exact⟨S',e1,h⟩
theorem v41(BW:Nat)(e:Int)(a:Fq)(da:D)(S:A1)(hE:J5 S BW e)(ha:Rq a da)(va:VQ a)(hle:a.1<=a.2) :
  ∃d S',call dp 41 [.bx BW 0,da] S=some (d,S')/\(if e=0 then Rq (CQ a) d else d=Bx)/\J5 S' BW e/\C1 S S' BW:=by
 obtain⟨r,er,dq,rfl,hq⟩:=v95 a da ha va hle
 obtain⟨d,S',e1,h⟩:=f41 (.bx BW 0) da S (fun d S'=>(if e=0 then Rq (CQ a) d else d=Bx)/\J5 S' BW e/\C1 S S' BW) (by
  unfold s41;refine Yn S ha.N0 _ fun x y q1=>?_;have q3:Hm (.box [.sl 1 true [] .ro,.sl 1 true [] .ro]::.box [x,y]::S) (S.length+1) Bx:=Hm.nil (.box [x,y]::S);have g1:Cx S (.box [.sl 1 true [] .ro,.sl 1 true [] .ro]::.box [x,y]::S):=((Cx.refl S).cons _).cons _;have yO:Hm (.box [.sl 1 true [] .ro,.sl 1 true [] .ro]::.box [x,y]::S) S.length da:=q1.grow ((Cx.refl _).cons (.box [.sl 1 true [] .ro,.sl 1 true [] .ro]));have fh:J5 (.box [.sl 1 true [] .ro,.sl 1 true [] .ro]::.box [x,y]::S) BW e:=g1.get hE;have xe:=AJ hE;rw[HY];have l1:List.length (B9.box [x,y]::S)=S.length+1:=rfl;rw[l1];generalize(B9.box [.sl 1 true [] .ro,.sl 1 true [] .ro]::.box [x,y]::S)=S2 at *;obtain⟨S3,e3,hE3,k3⟩:=v94 BW e 0 dq S2 fh hq.N0;have hee:(if e=0 then 0 else e)=e:=by split<;>simp[*]
  rw[hee] at hE3;have hIs:Kx (if e=0 then dq else Bx):=by split;exact hq.N0;exact CP
  have q4:=k3.q q3 (by omega);obtain⟨S4,e4,q5,l4,k4⟩:=q4.st hIs;simp only[yO.ld,A5,er,CX,List.getElem?_cons_zero,List.getElem?_cons_succ,e3,e4,q5.CE];refine⟨?_,?_,?_⟩
  .split
   .exact hq
   .rfl
  .show AA S4 BW=_;rw[k4 BW (by omega)];exact hE3
  .have h1:=(g1.keeps BW).trans k3
   exact⟨by rw[l4];exact h1.len,fun j hj CF=>by rw[k4 j (by omega)];exact h1.get j hj CF⟩)
 exact⟨d,S',e1,h⟩
theorem v43(BW:Nat)(e:Int)(d:D)(S:A1)(hE:J5 S BW e)(hd:Kx d) :
  ∃S',call dp 43 [.bx BW 0,d] S=some (.AY [if e=0 then d else Bx,.i .i64 e],S')/\C1 S S' BW:=by
 obtain⟨r,S',e1,rfl,hk⟩:=f43 (.bx BW 0) d S (fun r S'=>r=.AY [if e=0 then d else Bx,.i .i64 e]/\C1 S S' BW) (by
  unfold s43;refine Yn S hd _ fun x y q1=>?_;have q3:Hm (.box [.sl 1 true [] .ro,.sl 1 true [] .ro]::.box [x,y]::S) (S.length+1) Bx:=Hm.nil (.box [x,y]::S);have g1:Cx S (.box [.sl 1 true [] .ro,.sl 1 true [] .ro]::.box [x,y]::S):=((Cx.refl S).cons _).cons _;have yO:Hm (.box [.sl 1 true [] .ro,.sl 1 true [] .ro]::.box [x,y]::S) S.length d:=q1.grow ((Cx.refl _).cons (.box [.sl 1 true [] .ro,.sl 1 true [] .ro]));have fh:J5 (.box [.sl 1 true [] .ro,.sl 1 true [] .ro]::.box [x,y]::S) BW e:=g1.get hE;have xe:=AJ hE;rw[HY];have l1:List.length (B9.box [x,y]::S)=S.length+1:=rfl;rw[l1];generalize(B9.box [.sl 1 true [] .ro,.sl 1 true [] .ro]::.box [x,y]::S)=S2 at *;by_cases h0:e=0
  .obtain⟨S4,e4,q5,l4,k4⟩:=q3.st hd;simp only[Kj,fa0,fh.ld,A5,AAU,h0,decide_true,Bool.not_true,Ac,yO.ld,e4,q5.CE,if_true];refine⟨trivial,?_⟩;have h1:=g1.keeps BW;exact⟨by rw[l4];exact h1.len,fun j hj CF=>by rw[k4 j (by omega)];exact h1.get j hj CF⟩
  .obtain⟨S4,e4,q5,l4,k4⟩:=q3.st CP
   have hE4:J5 S4 BW e:=by show AA S4 BW=_;rw[k4 BW (by omega)];exact fh
   simp only[Kj,fa0,fh.ld,A5,AAU,h0,decide_false,Bool.not_false,Al,SC,TH,e4,q5.CE,if_false,hE4.ld,MC,true_and];have h1:=g1.keeps BW
   exact⟨by rw[l4];exact h1.len,fun j hj CF=>by rw[k4 j (by omega)];exact h1.get j hj CF⟩)
 exact⟨S',e1,hk⟩
def qc(c:Ch):Fq:=(val c.num,val c.den)
theorem vc_q{c:Ch}(ok:OkC c)(h:VC c):VQ (qc c)/\Rq (qc c) (yE c)/\(qc c).1<=(qc c).2:=by
 obtain⟨h1,h2,h3⟩:=VQ_of ok.l1 ok.l2 h.1.2;refine⟨h1,⟨c.2.1.1,c.2.2.1,?_,?_,?_⟩,h.2.2⟩
 .show eQ _ _ c.num c.den=eQ _ _ (B1 (val c.num)) (B1 (val c.den));rw[<-h2,<-h3]
 .show NF _ (B1 (val c.num));rw[<-h2];exact ok.f1
 .show NF _ (B1 (val c.den));rw[<-h3];exact ok.f2
theorem VL.all{l:List Ch}(h:VL l):∀c,c∈l->VC c:=by intro c hc;obtain⟨i,hi⟩:=List.mem_iff_getElem?.1 hc;exact(h i c hi).1
def mix(p lo hi:Fq):Option Fq:=(Gn (CQ p) lo).bind fun a=>(Gn p hi).bind fun b=>Mw a b
theorem mix_vq{p lo hi q:Fq}(vp:VQ p)(hp:p.1<=p.2)(vl:VQ lo)(vh:VQ hi)(h:mix p lo hi=some q):VQ q:=by
 unfold mix at h;cases h1:Gn (CQ p) lo with
 |none=>rw[h1] at h;cases h
 |some a=>
  rw[h1,bind_some] at h;cases h2:Gn p hi with
  |none=>rw[h2] at h;cases h
  |some b=>
   rw[h2,bind_some] at h;exact tI (O6 (Ou vp hp) vl h1) (O6 vp vh h2) h
open Go NL BT
def Qa(l:List Ch)(r:Row):Fq:=match l.find? (fun c=>decide (c.1=r)) with|some c=>qc c|none=>(1,1)
theorem Nr{l:List Ch}(Bg:X2 l)(hv:VL l)(r:Row):VQ (Qa l r)/\Rq (Qa l r) (yB l r)/\(Qa l r).1<=(Qa l r).2:=by
 unfold Qa yB;cases h:l.find? (fun c=>decide (c.1=r)) with
 |none=>exact⟨Pf,⟨false,false,rfl,fun h=>(by cases h),fun h=>(by cases h)⟩,le_refl _⟩
 |some c=>
  have hm:=List.mem_of_find?_eq_some h;exact vc_q (Bg c hm) (hv.all c hm)
def V1(ord:List Row)(l:List Ch)(o:Option (List Fq))(x:Nd):Option (List Fq):=
 o.bind fun vs=>(mix (Qa l (ord.getD x.1.toNat (0,0))) (vs.getD x.2.1.toNat (0,1)) (vs.getD x.2.2.toNat (0,1))).map fun q=>vs++[q]
def Hc(ord:List Row)(l:List Ch)(ns:List Nd):Option (List Fq):=ns.foldl (V1 ord l) (some [(0,1),(1,1)])
def ZX(ord:List Row)(l:List Ch)(ns:List Nd)(root:Int):Option Fq:=(Hc ord l ns).map fun vs=>vs.getD root.toNat (0,1)
theorem TJ(ord:List Row)(l:List Ch)(ns:List Nd)(x:Nd):Hc ord l (ns++[x])=V1 ord l (Hc ord l ns) x:=by simp[Hc]
theorem LV{vs:List Fq}(h:∀q,q∈vs->VQ q)(i:Nat):VQ (vs.getD i (0,1)):=by
 rw[gD];cases hi:vs[i]? with
 |none=>exact RC
 |some q=>exact h q (gC hi)
theorem Og{ord:List Row}{l:List Ch}(Bg:X2 l)(hv:VL l):∀(ns:List Nd) (o:Option (List Fq)),(∀vs,o=some vs->∀q,q∈vs->VQ q)->∀vs,ns.foldl (V1 ord l) o=some vs->∀q,q∈vs->VQ q
 |[],o,ho,vs,h=>ho vs h
 |x::ns,o,ho,vs,h=>by
  rw[List.foldl_cons] at h;refine Og Bg hv ns _ ?_ vs h;intro vs' hs q hq;cases o with
  |none=>cases hs
  |some us=>
   unfold V1 at hs;rw[bind_some] at hs;obtain⟨vq,_,hle⟩:=Nr Bg hv (ord.getD x.1.toNat (0,0));cases hm:mix (Qa l (ord.getD x.1.toNat (0,0))) (us.getD x.2.1.toNat (0,1)) (us.getD x.2.2.toNat (0,1)) with
   |none=>rw[hm] at hs;cases hs
   |some r=>
    rw[hm,map_some] at hs;injection hs with hs
    subst hs;rcases List.mem_append.1 hq with h'|h'
    .exact ho us rfl q h'
    .rw[List.mem_singleton.1 h'];exact mix_vq vq hle (LV (ho us rfl) _) (LV (ho us rfl) _) hm
def ng(vs:List Fq)(xs:List (List D)):Prop:=xs.length=vs.length/\∀(i:Nat) (q:Fq),vs[i]? = some q->∃n1 n2,xs[i]? = some [AD n1 (B1 q.1) .ro,AD n2 (B1 q.2) .ro]/\NF n1 (B1 q.1)/\NF n2 (B1 q.2)
theorem ng.at{vs:List Fq}{xs:List (List D)}(h:ng vs xs){i:Nat}(hi:i<vs.length):∃cs,xs[i]? = some cs/\Rq (vs.getD i (0,1)) (.agg cs)/\cs.length=2:=by
 obtain⟨q,hq⟩:∃q,vs[i]? = some q:=⟨vs[i],gA hi⟩
 obtain⟨n1,n2,h1,h2,h3⟩:=h.2 i q hq;refine⟨_,h1,⟨n1,n2,?_,?_,?_⟩,rfl⟩
 all_goals rw[gD,hq,getD_some]
 .rfl
 .exact h2
 .exact h3
theorem ng.snoc{vs:List Fq}{xs:List (List D)}(h:ng vs xs){q:Fq}{d:D}(hq:Rq q d):∃cs,Am 2 true d=some cs/\ng (vs++[q]) (xs++[cs]):=by
 obtain⟨n1,n2,rfl,f1,f2⟩:=hq;refine⟨_,rfl,by simp[h.1],fun i q' hi=>?_⟩;rcases Nat.lt_or_ge i vs.length with hl|hl
 .rw[gE hl] at hi;obtain⟨m1,m2,k1,k2⟩:=h.2 i q' hi;exact⟨m1,m2,by rw[gE (by rw[h.1];exact hl)];exact k1,k2⟩
 .rw[gF hl] at hi
  have h0:i-vs.length=0:=by have:=(gB.1 hi).1;simp at this;omega
  rw[h0] at hi;simp at hi;subst hi;exact⟨n1,n2,by rw[gF (by rw[h.1];exact hl),h.1,h0];rfl,f1,f2⟩
def Qo(o:Option (List Fq))(e:Int)(n:Nat)(xs:List (List D)):Prop:=match o with
 |some vs=>e=0/\vs.length=n/\ng vs xs
 |none=>e=6/\xs.length=n/\∀(i:Nat) (cs:List D),xs[i]? = some cs->Kx (.agg cs)
theorem Qo.len{o:Option (List Fq)}{e:Int}{n:Nat}{xs:List (List D)}(h:Qo o e n xs):xs.length=n:=by
 cases o with
 |some vs=>exact h.2.2.1.trans h.2.1
 |none=>exact h.2.1
theorem Qo.N0{o:Option (List Fq)}{e:Int}{n:Nat}{xs:List (List D)}(h:Qo o e n xs){i:Nat}(hi:i<n):∃cs,xs[i]? = some cs/\Kx (.agg cs)/\cs.length=2:=by
 cases o with
 |some vs=>
  obtain⟨cs,h1,h2,h3⟩:=h.2.2.at (i:=i) (by rw[h.2.1];exact hi);exact⟨cs,h1,h2.N0,h3⟩
 |none=>
  obtain⟨cs,hc⟩:∃cs,xs[i]? = some cs:=⟨xs[i]'(by rw[h.2.1];exact hi),gA _⟩
  obtain⟨n1,n2,a,b,e⟩:=h.2.2 i cs hc;have:cs=[AD n1 a .ro,AD n2 b .ro]:=by injection e
  exact⟨cs,hc,⟨n1,n2,a,b,e⟩,by rw[this];rfl⟩
def J9(nl B3 nc:Bool)(ord:List Row)(ns:List Nd)(root:Int)(l:List Ch):Nat->List D->A1->Prop:=fun n fr S=>∃k e xs t a5 a28,n=ns.length-k/\k<=ns.length/\Qo (Hc ord l (ns.take k)) e (k+2) xs/\AA S t=some (.tok true) /\
 AA S 0=some (.box [AN nl ord,Cm B3 ns,.i .i64 root])/\Hm S 1 Bx/\J5 S 2 e /\
 fr=B0 68 [(1,Ep nc l),(2,.bx 0 0),(4,.bx 1 0),(5,a5),(6,.bx 2 0),(7,.sl 2 false xs (.tok t)),(25,Cm B3 ns),(26,.i .i64 ns.length),(27,.i .i64 k),(28,a28)]
theorem P7(BW:Nat)(o:Option (Fq×Fq))(e:Int)(da db:D)(S:A1)(hE:J5 S BW e)(h:match o with|some (a,b)=>e=0/\Rq a da/\Rq b db/\VQ a/\VQ b|none=>e=6/\Kx da/\Kx db) :
  ∃d e' S',call dp 40 [.bx BW 0,da,db] S=some (d,S')/\St (o.bind fun p=>Gn p.1 p.2) e' d/\J5 S' BW e'/\C1 S S' BW:=by
 cases o with
 |some p=>
  obtain⟨rfl,ha,hb,va,vb⟩:=h;exact v40 BW p.1 p.2 da db S hE ha hb va vb
 |none=>
  obtain⟨rfl,ha,hb⟩:=h;obtain⟨S',h1,h2,h3⟩:=v40e BW 6 da db S hE (by decide) ha hb;exact⟨Bx,6,S',h1,⟨rfl,CP⟩,h2,h3⟩
theorem Ra(BW:Nat)(o:Option (Fq×Fq))(e:Int)(da db:D)(S:A1)(hE:J5 S BW e)(h:match o with|some (a,b)=>e=0/\Rq a da/\Rq b db/\VQ a/\VQ b|none=>e=6/\Kx da/\Kx db) :
  ∃d e' S',call dp 42 [.bx BW 0,da,db] S=some (d,S')/\St (o.bind fun p=>Mw p.1 p.2) e' d/\J5 S' BW e'/\C1 S S' BW:=by
 cases o with
 |some p=>
  obtain⟨rfl,ha,hb,va,vb⟩:=h;exact v42 BW p.1 p.2 da db S hE ha hb va vb
 |none=>
  obtain⟨rfl,ha,hb⟩:=h;obtain⟨S',h1,h2,h3⟩:=v42e BW 6 da db S hE (by decide) ha hb;exact⟨Bx,6,S',h1,⟨rfl,CP⟩,h2,h3⟩
def LH(w:Option (Fq×Fq))(e:Int)(dl dh:D):Prop:=match w with|some x=>e=0/\Rq x.1 dl/\Rq x.2 dh/\VQ x.1/\VQ x.2|none=>e=6/\Kx dl/\Kx dh
theorem Qo.two{o:Option (List Fq)}{e:Int}{n:Nat}{xs:List (List D)}(h:Qo o e n xs)(hq:∀vs,o=some vs->∀q,q∈vs->VQ q){i j:Nat}(hi:i<n)(hj:j<n) :
  ∃cl ch,xs[i]? = some cl/\xs[j]? = some ch/\cl.length=2/\ch.length=2/\LH (o.map fun vs=>(vs.getD i (0,1),vs.getD j (0,1))) e (.agg cl) (.agg ch):=by
 obtain⟨cl,c1,c2,c3⟩:=h.N0 hi;obtain⟨ch,k1,k2,k3⟩:=h.N0 hj;refine⟨cl,ch,c1,k1,c3,k3,?_⟩;cases o with
 |none=>exact⟨h.1,c2,k2⟩
 |some vs=>
  obtain⟨cl',d1,d2,_⟩:=h.2.2.at (i:=i) (by rw[h.2.1];exact hi);obtain⟨ch',e1,e2,_⟩:=h.2.2.at (i:=j) (by rw[h.2.1];exact hj);rw[c1] at d1;injection d1 with d1;subst d1;rw[k1] at e1;injection e1 with e1;subst e1
  exact⟨h.1,d2,e2,LV (hq vs rfl) i,LV (hq vs rfl) j⟩
theorem op41{w:Option (Fq×Fq)}{e:Int}{dl dh:D}(h:LH w e dl dh){p:Fq}{dc:D}(S:A1)(hE:J5 S 2 e)(hp:Rq p dc)(vp:VQ p)(hle:p.1<=p.2) :
  ∃d S',call dp 41 [.bx 2 0,dc] S=some (d,S')/\(∀x,w=some x->Rq (CQ p) d)/\Kx d/\J5 S' 2 e/\C1 S S' 2:=by
 obtain⟨d,S',h1,h2,h3,h4⟩:=v41 2 e p dc S hE hp vp hle;refine⟨d,S',h1,?_,?_,h3,h4⟩
 .intro x hx;subst hx
  rwa [if_pos h.1] at h2
 .split at h2
  .exact h2.N0
  .rw[h2];exact CP
theorem op40a{w:Option (Fq×Fq)}{e:Int}{dl dh:D}(h:LH w e dl dh){p:Fq}{d:D}(S:A1)(hE:J5 S 2 e)(hd:∀x,w=some x->Rq (CQ p) d)(hi:Kx d)(vp:VQ p)(hle:p.1<=p.2) :
  ∃d' e' S',call dp 40 [.bx 2 0,d,dl] S=some (d',S')/\St (w.bind fun x=>Gn (CQ p) x.1) e' d'/\J5 S' 2 e'/\C1 S S' 2:=by
 cases w with
 |none=>exact P7 2 none e d dl S hE ⟨h.1,hi,h.2.1⟩
 |some x=>exact P7 2 (some (CQ p,x.1)) e d dl S hE ⟨h.1,hd x rfl,h.2.1,Ou vp hle,h.2.2.2.1⟩
theorem op40b{w:Option (Fq×Fq)}{e:Int}{dl dh:D}(h:LH w e dl dh){p:Fq}{dc d1:D}{e1:Int}(h1:St (w.bind fun x=>Gn (CQ p) x.1) e1 d1)(S:A1)(hE:J5 S 2 e1)(hp:Rq p dc)(vp:VQ p) :
  ∃d' e' S',call dp 40 [.bx 2 0,dc,dh] S=some (d',S')/\St (w.bind fun x=>(Gn (CQ p) x.1).bind fun _=>Gn p x.2) e' d'/\J5 S' 2 e'/\C1 S S' 2:=by
 cases w with
 |none=>exact P7 2 none e1 dc dh S hE ⟨h1.1,hp.N0,h.2.2⟩
 |some x=>
  rw[bind_some] at h1 ⊢;cases ha:Gn (CQ p) x.1 with
  |none=>
   rw[ha] at h1;exact P7 2 none e1 dc dh S hE ⟨h1.1,hp.N0,h.2.2.1.N0⟩
  |some a=>
   rw[ha] at h1;exact P7 2 (some (p,x.2)) e1 dc dh S hE ⟨h1.1,hp,h.2.2.1,vp,h.2.2.2.2⟩
theorem op42{w:Option (Fq×Fq)}{e:Int}{dl dh:D}(h:LH w e dl dh){p:Fq}{d1 d2:D}{e1 e2:Int}(h1:St (w.bind fun x=>Gn (CQ p) x.1) e1 d1)(h2:St (w.bind fun x=>(Gn (CQ p) x.1).bind fun _=>Gn p x.2) e2 d2)(S:A1)(hE:J5 S 2 e2)(vp:VQ p)(hle:p.1<=p.2) :
  ∃d' e' S',call dp 42 [.bx 2 0,d1,d2] S=some (d',S')/\St (w.bind fun x=>mix p x.1 x.2) e' d'/\J5 S' 2 e'/\C1 S S' 2:=by
 cases w with
 |none=>exact Ra 2 none e2 d1 d2 S hE ⟨h2.1,h1.2,h2.2⟩
 |some x=>
  rw[bind_some] at h1 h2 ⊢;cases ha:Gn (CQ p) x.1 with
  |none=>
   have hm:mix p x.1 x.2=none:=by unfold mix;rw[ha];rfl
   rw[ha] at h1 h2;rw[hm];exact Ra 2 none e2 d1 d2 S hE ⟨h2.1,h1.2,h2.2⟩
  |some a=>
   rw[ha] at h1 h2;rw[bind_some] at h2;cases hb:Gn p x.2 with
   |none=>
    have hm:mix p x.1 x.2=none:=by unfold mix;rw[ha,bind_some,hb];rfl
    rw[hb] at h2;rw[hm];exact Ra 2 none e2 d1 d2 S hE ⟨h2.1,h1.N0,h2.2⟩
   |some b=>
    have hm:mix p x.1 x.2=Mw a b:=by unfold mix;rw[ha,bind_some,hb,bind_some]
    rw[hb] at h2;rw[hm];exact Ra 2 (some (a,b)) e2 d1 d2 S hE ⟨h2.1,h1.2,h2.2,O6 (Ou vp hle) h.2.2.2.1 ha,O6 vp h.2.2.2.2 hb⟩
theorem X7(S:A1){d:D}(h:Kx d):∃S',Ax (B9.box [.sl 1 true [] .ro,.sl 1 true [] .ro]::S) 2 true (.bx S.length 0) d=some S'/\Hm S' S.length d/\S'.length=S.length+1/\∀j,j<S.length->AA S' j=AA S j:=by obtain⟨S',h1,h2,h3,h4⟩:=(Hm.nil S).st h;refine⟨S',h1,h2,h3,fun j hj=>?_⟩;rw[h4 j (by omega),BM,if_neg (by omega)]
theorem Qo.snoc{ord:List Row}{l:List Ch}{ns:List Nd}{k:Nat}{x:Nd}{r:Row}{a2 a3:Nat}{e:Int}{xs:List (List D)}(hx:ns[k]? = some x)(h:Qo (Hc ord l (ns.take k)) e (k+2) xs)
  (hr:ord.getD x.1.toNat (0,0)=r) (h2:x.2.1.toNat=a2) (h3:x.2.2.toNat=a3) {e':Int} {d:D} (Er:St (((Hc ord l (ns.take k)).map fun vs=>(vs.getD a2 (0,1),vs.getD a3 (0,1))).bind fun x=>mix (Qa l r) x.1 x.2) e' d) :
  ∃cs,Am 2 true d=some cs/\Qo (Hc ord l (ns.take (k+1))) e' (k+1+2) (xs++[cs]):=by
 rw[BV hx,TJ];cases ho:Hc ord l (ns.take k) with
 |none=>
  rw[ho] at h Er;obtain⟨rfl,n1,n2,a,b,rfl⟩:=Er;refine⟨_,rfl,rfl,by simp[h.2.1],fun i cs hi=>?_⟩;rcases List.mem_append.1 (gC hi) with hm|hm
  .obtain⟨i',hi'⟩:=List.mem_iff_getElem?.1 hm;exact h.2.2 i' cs hi'
  .rw[List.mem_singleton.1 hm];exact⟨n1,n2,a,b,rfl⟩
 |some vs=>
  rw[ho] at h Er;rw[map_some,bind_some] at Er;unfold V1;rw[bind_some,hr,h2,h3];cases hm:mix (Qa l r) (vs.getD a2 (0,1)) (vs.getD a3 (0,1)) with
  |none=>
   simp only[hm] at Er;obtain⟨rfl,n1,n2,a,b,rfl⟩:=Er;refine⟨_,rfl,rfl,by simp[h.2.2.1,h.2.1],fun i cs hi=>?_⟩;rcases List.mem_append.1 (gC hi) with hm|hm
   .obtain⟨i',hi'⟩:=List.mem_iff_getElem?.1 hm;have Ap:=(gB.1 hi').1;obtain⟨ah,c1,c2,_⟩:=(show Qo (some vs) e (k+2) xs from h).N0 (i:=i') (by rw[h.2.2.1,h.2.1] at Ap;exact Ap);rw[hi'] at c1;injection c1 with c1;rw[c1];exact c2
   .rw[List.mem_singleton.1 hm];exact⟨n1,n2,a,b,rfl⟩
  |some q=>
   simp only[hm] at Er;obtain⟨rfl,hq⟩:=Er;obtain⟨cs,c1,c2⟩:=h.2.2.snoc hq;exact⟨cs,c1,rfl,by simp[h.2.1],c2⟩
theorem fin9{ord:List Row}{l:List Ch}{ns:List Nd}{a:Nat}{e:Int}{n:Nat}{xs:List (List D)}{cl:List D}(h:Qo (Hc ord l ns) e n xs)(ha:a<n)(hc:xs[a]? = some cl):RT (ZX ord l ns (a:Int)) 6 (Ae (.AY [if e=0 then .agg cl else Bx,.i .i64 e])):=by
 unfold ZX;cases ho:Hc ord l ns with
 |none=>
  rw[ho] at h;obtain⟨rfl,_⟩:=h;rfl
 |some vs=>
  rw[ho] at h;obtain⟨rfl,hl,hx⟩:=h;obtain⟨cs,h1,h2,_⟩:=hx.at (i:=a) (by rw[hl];exact ha);rw[hc] at h1;injection h1 with h1
  subst h1;refine⟨.agg cl,?_,h2⟩;show D.AY [strip (.agg cl),_]=_;rw[h2.strip];rfl
set_option maxHeartbeats 1000000 in
theorem v9_ok(nl B3 nc:Bool)(ord:List Row)(ns:List Nd)(root:Int)(l:List Ch)(hn:nl=true->ord=[])(hV:VB ord ns root)(Bg:X2 l)(hv:VL l)(hb:Bd l.length)(hf:∀c,c∈l->c.num.length<=1000/\c.den.length<=1000):∃r,A0 (call dp) 9 [eB nl B3 ord ns root,Ep nc l]=some r/\RT (ZX ord l ns root) 6 r:=by
 apply j9 _ _ _ (by simp[A9]) (fun r h=>h.AG);have hlen:=hV.2.1;have hord:=hV.1.2;have u38:=v38 nl B3 ord ns root hn (by unfold Bd;omega) (by unfold Bd;omega);have u14:=v14 nc l Bg hb;have fp:AV 2 true [eQ false false (B1 0) (B1 1),eQ false false (B1 1) (B1 1)]=some [[AD false (B1 0) .ro,AD false (B1 1) .ro],[AD false (B1 1) .ro,AD false (B1 1) .ro]]:=rfl;have hld:AE [B9.box [.sl 1 true [] .ro,.sl 1 true [] .ro],.box [AN nl ord,Cm B3 ns,.i .i64 root]] 3 true (.bx 0 0)=some (eB nl B3 ord ns root):=rfl;have hbs:HE 2 [[AD false (B1 0) .ro,AD false (B1 1) .ro],[AD false (B1 1) .ro,AD false (B1 1) .ro]] [B9.box [.i .i64 0],.box [.sl 1 true [] .ro,.sl 1 true [] .ro],.box [AN nl ord,Cm B3 ns,.i .i64 root]]=(.sl 2 false [[AD false (B1 0) .ro,AD false (B1 1) .ro],[AD false (B1 1) .ro,AD false (B1 1) .ro]] (.tok 3),[.tok true,B9.box [.i .i64 0],.box [.sl 1 true [] .ro,.sl 1 true [] .ro],.box [AN nl ord,Cm B3 ns,.i .i64 root]]):=rfl;have hld1:AE [.tok true,B9.box [.i .i64 0],.box [.sl 1 true [] .ro,.sl 1 true [] .ro],.box [AN nl ord,Cm B3 ns,.i .i64 root]] 1 false (.bx 0 1)=some (Cm B3 ns):=rfl;have fan:∀id o p,AO o (.bx id p)=some (.bx id (p+o)):=fun _ _ _=>rfl;simp only[s9,sM,JH,Pj,nZ,A5,HY,List.length_cons,List.length_nil,zero_add,Nat.reduceAdd,hld,u38,u14,hV,hv,decide_true,Cu,Bool.not_true,EE,GI,Ac,v39,v28,fp,hbs,fan,hld1,aH];generalize hR:QS (call dp) hY _=R;refine AW (J9 nl B3 nc ord ns root l) ?_ ns.length _ _ ⟨0,0,_,3,.top,.top,by omega,by omega,⟨rfl,rfl,rfl,?_⟩,rfl,rfl,⟨_,_,rfl,rfl⟩,rfl,rfl⟩;rotate_left
 .intro i q hi
  match i with
  |0=>simp at hi;subst hi;exact⟨false,false,rfl,fun h=>(by cases h),fun h=>(by cases h)⟩
  |1=>simp at hi;subst hi;exact⟨false,false,rfl,fun h=>(by cases h),fun h=>(by cases h)⟩
  |i+2=>simp at hi
 rintro n fr S ⟨k,e,xs,t,a5,a28,rfl,hk,U4,ht,hB,q1,hE,rfl⟩;rw[<-Ay,e9_0];have hSt:=AJ ht;have Qf:2<S.length:=AJ hE;by_cases Ap:k<ns.length
 .obtain⟨⟨x1,x2,x3⟩,hx⟩:∃x,ns[k]? = some x:=⟨ns[k],gA Ap⟩
  have UZ:=ko hx hV.2.2.1.1;have YN:(ns.take k).length=k:=by rw[List.length_take];omega
  obtain⟨⟨b1,b2⟩,⟨⟨b3,b4⟩,⟨b5,b6⟩⟩,_⟩:=UZ;simp only[YN] at b1 b2 b3 b4 b5 b6;obtain⟨a1,rfl⟩:∃n:Nat,x1=n:=⟨x1.toNat,by omega⟩
  obtain⟨a2,rfl⟩:∃n:Nat,x2=n:=⟨x2.toNat,by omega⟩
  obtain⟨a3,rfl⟩:∃n:Nat,x3=n:=⟨x3.toNat,by omega⟩
  obtain⟨r,hr⟩:∃r,ord[a1]? = some r:=⟨ord[a1],gA (by omega)⟩
  have hgr:ord.getD ((a1:Int)).toNat (0,0)=r:=by rw[toNat_natCast,gD,hr];rfl
  have hvq:∀vs,Hc ord l (ns.take k)=some vs->∀q,q∈vs->VQ q:=fun vs hd q hq=>Og Bg hv (ns.take k) (some [(0,1),(1,1)]) (fun vs h q hq=>by
   injection h with h
   subst h;rcases List.mem_cons.1 hq with h|h
   .rw[h];exact RC
   .rw[List.mem_singleton.1 h];exact Pf) vs hd q hq
  obtain⟨cl,ch,YP,hch,ll,lh,hLH⟩:=U4.two hvq (i:=a2) (j:=a3) (by omega) (by omega);obtain⟨vq,rq,hle⟩:=Nr Bg hv r;have u17:=v17 nc l r Bg hb hf;have ia1:Ak 3 (Cm B3 ns) (.i .i64 (k:Int))=some (.el (C5 ((a1:Int),(a2:Int),(a3:Int))) 0):=LN .i64 hx;have ia2:Ak 2 (AN nl ord) (.i .i64 (a1:Int))=some (.el (Ar r) 0):=AAF hr;have ia3:Ak 2 (.sl 2 false xs (.tok t)) (.i .i64 (a2:Int))=some (.el cl 0):=by simp[Ak,YP]
  have ia4:Ak 2 (.sl 2 false xs (.tok t)) (.i .i64 (a3:Int))=some (.el ch 0):=by simp[Ak,hch]
  have ldl:∀S:A1,AE S 2 true (.el cl 0)=some (.agg cl):=fun S=>OO ll;have ldh:∀S:A1,AE S 2 true (.el ch 0)=some (.agg ch):=fun S=>OO lh
  have hst3:Ax (B9.box [.i .i64 0,.i .i64 0,.i .i64 0]::S) 3 true (.bx S.length 0) (.agg (C5 ((a1:Int),(a2:Int),(a3:Int))))=some (.box (C5 ((a1:Int),(a2:Int),(a3:Int)))::S):=by rw[Y2,Aj,aM];simp
  have g1:Cx S (.box (C5 ((a1:Int),(a2:Int),(a3:Int)))::S):=(Cx.refl S).cons _;have hB1:=g1.get hB
  have nAt:∀S':A1,AA S' S.length=some (.box (C5 ((a1:Int),(a2:Int),(a3:Int))))->∀o v,(C5 ((a1:Int),(a2:Int),(a3:Int)))[o]? = some v->AE S' 1 false (.bx S.length o)=some v:=fun S' hs o v h=>by rw[GH,hs];exact h
  have t0:=nAt (.box (C5 ((a1:Int),(a2:Int),(a3:Int)))::S) (Aj _ S);have hB1r:AE (B9.box (C5 ((a1:Int),(a2:Int),(a3:Int)))::S) 1 false (.bx 0 0)=some (AN nl ord):=by rw[GH,hB1];rfl
  have k17:=g1.keeps 2;have hE17:J5 (.box (C5 ((a1:Int),(a2:Int),(a3:Int)))::S) 2 e:=g1.get hE;have hN17:AA (.box (C5 ((a1:Int),(a2:Int),(a3:Int)))::S) S.length=some (.box (C5 ((a1:Int),(a2:Int),(a3:Int)))):=Aj _ S;have hl17:List.length (B9.box (C5 ((a1:Int),(a2:Int),(a3:Int)))::S)=S.length+1:=rfl;simp only[s9_0,BH,Ap,decide_true,Al,ia1,Um,A5,HY,hst3,fan,zero_add,hB1r,t0 0 _ rfl,ia2,eG,u17];generalize(B9.box (C5 ((a1:Int),(a2:Int),(a3:Int)))::S)=S17 at *;obtain⟨S28,e28,q28,l28,k28⟩:=X7 S17 rq.N0;have hN28:AA S28 S.length=some (.box (C5 ((a1:Int),(a2:Int),(a3:Int)))):=by rw[k28 _ (by omega)];exact hN17
  have hE28:J5 S28 2 e:=by show AA S28 2=_;rw[k28 _ (by omega)];exact hE17
  have K28:C1 S S28 2:=⟨by omega,fun j hj CF=>by rw[k28 j (by omega)];exact k17.get j hj CF⟩
  obtain⟨d41,S35,e35,r41,i41,hE35,k35⟩:=op41 hLH S28 hE28 rq vq hle;have K35:=K28.trans k35;have hN35:AA S35 S.length=some (.box (C5 ((a1:Int),(a2:Int),(a3:Int)))):=by rw[k35.get _ (by omega) (by omega)];exact hN28
  have q35:Hm S35 S17.length (yB l r):=k35.q q28 (by omega);obtain⟨d40,e1,S39,e39,st40,hE39,k39⟩:=op40a hLH S35 hE35 r41 i41 vq hle;have K39:=K35.trans k39;have hl35:=k35.len;have hl39:=k39.len;have hN39:AA S39 S.length=some (.box (C5 ((a1:Int),(a2:Int),(a3:Int)))):=by rw[k39.get _ (by omega) (by omega)];exact hN35
  have q39:Hm S39 S17.length (yB l r):=k39.q q35 (by omega);obtain⟨S43,e43',q43,l43,k43⟩:=X7 S39 st40.N0;have K43:C1 S S43 2:=⟨by have:=K39.len;omega,fun j hj CF=>by rw[k43 j (by omega)];exact K39.get j hj CF⟩
  have hN43:AA S43 S.length=some (.box (C5 ((a1:Int),(a2:Int),(a3:Int)))):=by rw[k43 _ (by omega)];exact hN39
  have hE43:J5 S43 2 e1:=by show AA S43 2=_;rw[k43 _ (by omega)];exact hE39
  have q43':Hm S43 S17.length (yB l r):=by obtain⟨u,v,hz,h⟩:=q39;exact⟨u,v,hz,by rw[k43 _ (by omega)];exact h⟩
  obtain⟨d51,e2,S51,e51,st51,hE51,k51⟩:=op40b hLH st40 S43 hE43 rq vq;have K51:=K43.trans k51;have q51:Hm S51 S39.length d40:=k51.q q43 (by omega);obtain⟨d54,e3,S54,e54,st54,hE54,k54⟩:=op42 hLH st40 st51 S51 hE51 vq hle;have K54:=K51.trans k54;obtain⟨cs,U3,hvs'⟩:=U4.snoc hx hgr (toNat_natCast a2) (toNat_natCast a3) st54;have hcv1:AV 2 true [d54]=some [cs]:=by simp only[AV,U3]
  have h0t:0≠t:=by rintro rfl;rw[hB] at ht;cases ht
  have h1t:1≠t:=by rintro rfl;obtain⟨u,v,_,h⟩:=q1;rw[h] at ht;cases ht
  have h2t:2≠t:=by rintro rfl;rw[show AA S 2=_ from hE] at ht;cases ht
  have ht54:AA S54 t=some (.tok true):=by rw[K54.get t hSt (Ne.symm h2t)];exact ht
  have hB54:AA S54 0=_:=(K54.get 0 (by omega) (by decide)).trans hB;have q54:Hm S54 1 Bx:=K54.q q1 (by decide);have fe:=Mr (S:=S54) (k:=2) (n':=false) (xs:=xs) (ys:=[cs]) (o':=.ro) (by rw[U4.len];unfold AP;simp;omega) ht54;simp only[e28,A5,q28.ld,nAt S28 hN28 1 _ rfl,ia3,ldl,e35,nAt S35 hN35 1 _ rfl,MC,true_and,e39,e43',q43.ld,q43'.ld,nAt S43 hN43 2 _ rfl,ia4,ldh,e51,q51.ld,e54,hcv1,fe,CG (show Bd k by unfold Bd;omega),Ao];have CF:∀j e,j≠t->AA S54 j=some e->AA (B9.tok true::sset S54 t (.tok false)) j=some e:=fun j e h1 h2=>AM (by rw[AB _ h1];exact h2);refine⟨ns.length-(k+1),by omega,k+1,e3,xs++[cs],S54.length,a5,.top,rfl,by omega,hvs',?_,?_,?_,?_,rfl⟩
  .rw[<-BR (B9.tok false) S54 t];exact Aj _ _
  .exact CF 0 _ h0t hB54
  .obtain⟨u,v,hz,h⟩:=q54;exact⟨u,v,hz,CF 1 _ h1t h⟩
  .exact CF 2 _ h2t hE54
 .have:k=ns.length:=by omega
  subst this;rw[List.take_length] at U4;have hroot:=hV.2.2.1.2;obtain⟨a,rfl⟩:∃n:Nat,root=n:=⟨root.toNat,by omega⟩
  obtain⟨cl,YP,icl,ll⟩:=U4.N0 (i:=a) (by omega);have ia:Ak 2 (.sl 2 false xs (.tok t)) (.i .i64 (a:Int))=some (.el cl 0):=by simp[Ak,YP]
  have ldl:AE S 2 true (.el cl 0)=some (.agg cl):=OO ll;have hB2:AE S 1 false (.bx 0 2)=some (.i .i64 (a:Int)):=by rw[GH,hB];rfl
  obtain⟨S6,e6,k6⟩:=v43 2 e (.agg cl) S hE icl;have hIs:Kx (if e=0 then .agg cl else Bx):=by split;exact icl;exact CP
  obtain⟨S10,e10',q10,l10,k10⟩:=(k6.q q1 (by decide)).st hIs;simp only[s9_0,BH,Ap,decide_false,Ac,BC,Av];rw[<-hR];simp only[Ad,e9_r0,s9_r0,fan,zero_add,hB2,A5,ia,ldl,e6,CX,List.getElem?_cons_zero,List.getElem?_cons_succ,e10'];show OX (CE S10 2 true (.bx 1 0)) fun d=>RT (ZX ord l ns (a:Int)) 6 (Ae (.AY [d,.i .i64 e]));rw[q10.CE,A5];exact fin9 U4 (by omega) YP
open Go BT NL
def EX(l:List Ch)(x:SA)(q:Fq):Prop:=∃ord t,CW ord/\(∀r,r∈ord<->r∈Zr x)/\ord.length<=8/\KJ x=true/\teS x=false/\buS ord 4096 x=some t/\Wf ord.length t/\VL l/\ZX ord l (CH (post t [])) (code (post t []) t)=some q
def ExD(l:List Ch)(x:SA)(r:D):Prop:=(∃dq e,r=.AY [dq,.i .i64 e]/\e≠0/\Kx dq)\/∃q dq,r=.AY [dq,.i .i64 0]/\Rq q dq/\EX l x q
theorem v21(x:SA)(hx:Qc x)(hw:wS x<=50000)(hL:∃L:List Row,(∀r,r∈Zr x->r∈L)/\L.length<=8)(nc:Bool)(l:List Ch)(Bg:X2 l)(hb:Bd l.length)(hf:∀c,c∈l->c.num.length<=1000/\c.den.length<=1000) :
  ∃r,A0 (call dp) 21 [eS x,.i .i64 4096,Ep nc l]=some r/\ExD l x r:=by
 have e14:=v14 nc l Bg hb
 suffices hh:∃d,A0 (call dp) 21 [eS x,.i .i64 4096,Ep nc l]=some d/\ExD l x d from hh
 apply j21 _ _ _ _ (by simp[A9,Ke.AG,Ke.strip]) (by
  rintro r (⟨dq,e,rfl,_,hq⟩|⟨q,dq,rfl,hq,_⟩)
  .simp[DE.AG,A9,hq.AG]
  .simp[DE.AG,A9,hq.AG])
 have OE:strip (eS x)=eS x:=Ke.strip x;rw[OE];by_cases hv:VL l
 case neg=>
  simp only[hv,decide_false] at e14;simp[s21,e14];exact .inl ⟨_,1,rfl,by decide,CP⟩
 case pos=>
  simp only[hv,decide_true] at e14;obtain⟨s,nl,h1,h2,_,h3,h4⟩:=v68n x hx hw;obtain⟨L,hL1,hL2⟩:=hL;have h8:s.length<=8:=le_trans (Ku h3 fun r hr=>hL1 r ((h2 r).1 hr)) hL2;obtain⟨r,g1,g2⟩:=v67 x hx (fun _=>hw) nl s h4 h8 4096
  have errs:∀e:Int,e≠0->r=.AY [zB,.i .i64 e]->s21 (call dp) (eS x) (strip (.i .i64 4096)) (strip (Ep nc l)) [] fun d _=>ExD l x (Ae d):=by intro e he hr;rw[hr] at g1;simp[s21,e14,h1,g1,he,zB];exact .inl ⟨_,e,rfl,he,CP⟩
  rcases g2 with⟨_,hr⟩|⟨_,_,hr⟩|⟨_,_,_,hr⟩|⟨⟨ho,Lq,_⟩,xq,Q2,hRD⟩
  .exact errs 1 (by decide) hr
  .exact errs 13 (by decide) hr
  .exact errs 4 (by decide) hr
  .cases ht:buS s 4096 x with
   |none=>
    rw[ht] at hRD;exact errs 6 (by decide) hRD
   |some t=>
    rw[ht] at hRD;obtain⟨w,m,hr⟩:=hRD;rw[hr] at g1;have hVB:VB s (CH (post t [])) (code (post t []) t):=kN.2 ⟨t,VW ho h8 w⟩;obtain⟨r2,k1,k2⟩:=v9_ok nl m nc s (CH (post t [])) (code (post t []) t) l h4 hVB Bg hv hb hf;have k1:A0 (call dp) 9 [eT nl m s t,Ep nc l]=some r2:=k1;cases hd:ZX s l (CH (post t [])) (code (post t []) t) with
    |none=>
     rw[hd] at k2;have xI:r2=.AY [Bx,.i .i64 6]:=k2;rw[xI] at k1;simp[s21,e14,h1,g1,k1,Bx,eQ];exact .inl ⟨_,6,rfl,by decide,CP⟩
    |some q=>
     rw[hd] at k2;obtain⟨dq,xI,hq⟩:=k2;rw[xI] at k1;obtain⟨y1,y2,e1,e2,e3,e4⟩:=hq.N0.cells;rw[e1] at k1 hq;have hf:ExD l x (.AY [.agg [y1,y2],.i .i64 0]):=.inr ⟨q,_,rfl,hq,s,t,ho,h2,h8,Lq,xq,ht,w,hv,hd⟩;simp[s21,e14,h1,g1,k1];have UF:Am 2 true (.agg [y1,y2])=some [y1,y2]:=JV rfl (by simp[e2,e3]);have Er:strip (.agg [y1,y2])=.agg [y1,y2]:=by rw[<-e1];rw[e1] at e4;rw[e1];exact e4
     have hsp:Ai [.sl 1 true [] .ro,.sl 1 true [] .ro] 0 [y1,y2]=[y1,y2]:=rfl;simp[UF,hsp,Er];exact hf
section
variable {Z:Type}(ev:Z->Bool)(ρ:Row->Bool)
def jB(kind:Int):List Z->Bool
 |[]=>false
 |a::l=>if kind=2 then ev a else if kind=3 then !ev a else match l with
  |[]=>false
  |c::_=>ev a && !ev c
def NW(f:Fc Z):Bool:=if f.kind=0 then ρ f.row else jB ev f.kind f.args
def Np(t:Tm Z):Bool:=t.fs.all (NW ev ρ)
def KD(x:An Z):Bool:=x.ts.any (Np ev ρ)
end
def G8(ρ:Row->Bool):(n:Nat)->Eu n->Bool
 |0,x=>nomatch x
 |n+1,x=>KD (G8 ρ n) ρ x
def ag(ρ:Row->Bool)(p:SA):Bool:=G8 ρ p.1 p.2
section
variable {Z:Type}{ev:Z->Bool}{ρ:Row->Bool}{cp:Z->Z}
theorem evL_cp(h:∀a,ev (cp a)=ev a)(k:Int):∀l:List Z,jB ev k (l.map cp)=jB ev k l
 |[]=>rfl
 |[a]=>by simp[jB,h]
 |a::b::l=>by simp[jB,h]
theorem yZ(h:∀a,ev (cp a)=ev a)(f:Fc Z):NW ev ρ (Gy cp f)=NW ev ρ f:=by show(if f.kind=0 then ρ f.row else jB ev f.kind (f.args.map cp))=_;rw[evL_cp h];rfl
theorem zh(h:∀a,ev (cp a)=ev a)(x:An Z):KD ev ρ (Pe cp x)=KD ev ρ x:=by simp only[KD,Pe,List.any_map];congr 1;funext t;simp only[Function.comp,Np,Ks,List.all_map];congr 1;funext f;exact yZ h f
theorem evL_eq{c:Z->Z->Int}(h:∀a b,c a b=0->ev a=ev b)(k:Int){l m:List Z}(e:cmpL c l m=0):jB ev k l=jB ev k m:=by
 have:=Gg h e
 have key:∀l:List Z,jB ev k l=jB (fun b:Bool=>b) k (l.map ev):=fun l=>by
  match l with
  |[]=>rfl
  |[a]=>simp[jB]
  |a::b::l=>simp[jB]
 rw[key l,key m,this]
theorem iM{c:Z->Z->Int}(h:∀a b,c a b=0->ev a=ev b){f g:Fc Z}(e:EU c f g=0):NW ev ρ f=NW ev ρ g:=by obtain⟨h1,e⟩:=BQ e;obtain⟨h2,e⟩:=BQ e;obtain⟨h3,e⟩:=BQ e;obtain⟨h4,e⟩:=BQ e;have a2:f.row=g.row:=Prod.ext (GC h2) (GC h3);simp only[NW,GC h1,a2,evL_eq h _ h4]
theorem evTm_eq{c:Z->Z->Int}(h:∀a b,c a b=0->ev a=ev b){s t:Tm Z}(e:Oo c s t=0):Np ev ρ s=Np ev ρ t:=by
 obtain⟨h1,e⟩:=BQ e;have h1:cmpL (Ow c) s.fs t.fs=0:=h1;have:=Gg (f:=NW ev ρ) (fun f g k=>iM h (BQ k).1) h1;simp only[Np];have key:∀l:List (Fc Z),l.all (NW ev ρ)=(l.map (NW ev ρ)).all id:=fun l=>by simp
 rw[key,key,this]
theorem AAt{c:Z->Z->Int}(h:∀a b,c a b=0->ev a=ev b){x y:An Z}(e:Uu c x y=0):KD ev ρ x=KD ev ρ y:=by
 have e:cmpL (Oo c) x.ts y.ts=0:=e;have:=Gg (f:=Np ev ρ) (fun f g k=>evTm_eq h k) e;simp only[KD];have key:∀l:List (Tm Z),l.any (Np ev ρ)=(l.map (Np ev ρ)).any id:=fun l=>by simp
 rw[key,key,this]
end
theorem TL(ρ:Row->Bool):∀n (x:Eu n),G8 ρ n (Gd n x)=G8 ρ n x
 |0,x=>nomatch x
 |n+1,x=>zh (TL ρ n) x
theorem aT(ρ:Row->Bool):∀n (a b:Eu n),Ey n a b=0->G8 ρ n a=G8 ρ n b
 |0,a,_,_=>nomatch a
 |n+1,_,_,h=>AAt (aT ρ n) h
theorem ev_mul(ρ:Row->Bool){n:Nat}{a b:Eu (n+1)}{R:An (Eu n)}(h:∀t,t∈R.ts->∃p,Nu n a.ts b.ts p/\t.fs=p.fs)(hR:G8 ρ (n+1) (Gd (n+1) R)=true):G8 ρ (n+1) b=true:=by have hR:KD (G8 ρ n) ρ R=true:=(TL ρ (n+1) R).symm.trans hR;simp only[KD,any_eq_true] at hR;obtain⟨t,ht,hv⟩:=hR;obtain⟨p,⟨x,hx,y,hy,h1,_⟩,h2⟩:=h t ht;simp only[Np,h2,h1,List.all_eq_true] at hv;show KD (G8 ρ n) ρ b=true;simp only[KD,any_eq_true];refine⟨y,hy,?_⟩;simp only[Np,List.all_eq_true];exact Yd (P:=fun f=>NW (G8 ρ n) ρ f=true) (fun f z h=>h) (fun f g k h=>by rw[<-iM (aT ρ n) k];exact h) x.fs y.fs hv
theorem ev_abs(ρ:Row->Bool){n:Nat}(a:Eu (n+1)):G8 ρ (n+2) (Gd (n+2) (ET (Co a)))=!G8 ρ (n+1) a:=by refine(TL ρ (n+2) (ET (Co a))).trans ?_;show KD (G8 ρ (n+1)) ρ (ET (Co a))=_;simp[KD,ET,Np,NW,Co,jB]
def Z5(ord:List Row)(ρ:Row->Bool)(σ:Nat->Bool):Prop:=∀i r,ord[i]? = some r->σ i=ρ r
theorem gM{r:Row}:∀{l:List Row},r∈l->∃k:Nat,HX r l=k/\l[k]? = some r
 |[],h=>by cases h
 |x::l,h=>by
  by_cases e:x=r
  .exact⟨0,by simp[HX,e],by simp[e]⟩
  .have hm:r∈l:=by
    rcases List.mem_cons.1 h with q|q
    .exact absurd q.symm e
    .exact q
   obtain⟨k,h1,h2⟩:=gM hm;refine⟨k+1,?_,by simpa using h2⟩;simp only[HX];rw[if_neg e,h1,if_neg (by omega)];simp
section
variable {Z:Type}{b:Z->Option T}{ev:Z->Bool}{g:Z->Prop}{ord:List Row}{N:Int}{ρ:Row->Bool}{σ:Nat->Bool}
theorem at_ev(hσ:Z5 ord ρ σ)(H:∀a t,g a->b a=some t->Wf ord.length t/\fn t σ=ev a){f:Fc Z}(hf:wY ord g f){t:T}(h:atT b ord N f=some t):Wf ord.length t/\fn t σ=NW ev ρ f:=by
 unfold atT at h;rcases hf with⟨k0,hm⟩|⟨k0,a,l,ha,hga,hk⟩
 .rw[if_pos k0] at h;injection h with h
  obtain⟨k,h1,h2⟩:=gM hm;rw[h1,toNat_natCast] at h;have hk:=(gB.1 h2).1;subst h;exact⟨jb hk,by rw[yl,NW,if_pos k0];exact hσ k _ h2⟩
 .rw[if_neg k0,ha] at h;rw[NW,if_neg k0,ha];simp only[atK] at h;cases hb:b a with
  |none=>rw[hb] at h;cases h
  |some s=>
   rw[hb] at h;obtain⟨w1,e1⟩:=H a s hga hb;simp only at h;simp only[jB];by_cases k2:f.kind=2
   .rw[if_pos k2] at h ⊢;injection h with h;subst h
    exact⟨w1,e1⟩
   .rw[if_neg k2] at h ⊢;by_cases k3:f.kind=3
    .rw[if_pos k3] at h ⊢;injection h with h;subst h
     exact⟨Ph w1,by rw[Y6,e1]⟩
    .rw[if_neg k3] at h ⊢;rcases hk with hk|hk|⟨c,l',hl,hgc⟩
     .exact absurd hk k2
     .exact absurd hk k3
     .rw[hl] at h ⊢;simp only[atL] at h;cases hc:b c with
      |none=>rw[hc] at h;cases h
      |some s2=>
       rw[hc] at h;obtain⟨w2,e2⟩:=H c s2 hgc hc;have:=MT h;subst this;exact⟨Nc _ _ _ _,by rw[bn w1 (Ph w2),Y6,e1,e2];rfl⟩
theorem tm_ev(hσ:Z5 ord ρ σ)(H:∀a t,g a->b a=some t->Wf ord.length t/\fn t σ=ev a):∀(l:List (Fc Z)) (acc t:T),(∀f,f∈l->wY ord g f)->Wf ord.length acc->lz b ord N acc l=some t->Wf ord.length t/\fn t σ=(fn acc σ&&l.all (NW ev ρ))
 |[],acc,t,_,w,h=>by
  simp only[lz] at h;injection h with h;subst h
  exact⟨w,by simp⟩
 |f::l,acc,t,hg,w,h=>by
  simp only[lz] at h;cases hx:atT b ord N f with
  |none=>rw[hx] at h;cases h
  |some x=>
   rw[hx] at h;obtain⟨w1,e1⟩:=at_ev hσ H (hg f (by simp)) hx;simp only at h;cases hy:PS N (PK ord.length false acc x) with
   |none=>rw[hy] at h;cases h
   |some y=>
    rw[hy] at h;have:=MT hy;subst this;obtain⟨w2,e2⟩:=tm_ev hσ H l _ t (fun f hf=>hg f (by simp[hf])) (Nc _ _ _ _) h;refine⟨w2,?_⟩;rw[e2,bn w w1,e1];simp[opb,Bool.and_assoc]
theorem an_ev(hσ:Z5 ord ρ σ)(H:∀a t,g a->b a=some t->Wf ord.length t/\fn t σ=ev a):∀(l:List (Tm Z)) (acc t:T),(∀s,s∈l->gdTm ord g s)->Wf ord.length acc->anL b ord N acc l=some t->Wf ord.length t/\fn t σ=(fn acc σ||l.any (Np ev ρ))
 |[],acc,t,_,w,h=>by
  simp only[anL] at h;injection h with h;subst h
  exact⟨w,by simp⟩
 |s::l,acc,t,hg,w,h=>by
  simp only[anL] at h;cases hx:lz b ord N (.leaf true) s.fs with
  |none=>rw[hx] at h;cases h
  |some x=>
   rw[hx] at h;obtain⟨w1,e1⟩:=tm_ev hσ H s.fs (.leaf true) x (hg s (by simp)).2 trivial hx;simp only at h;cases hy:PS N (PK ord.length true acc x) with
   |none=>rw[hy] at h;cases h
   |some y=>
    rw[hy] at h;have:=MT hy;subst this;obtain⟨w2,e2⟩:=an_ev hσ H l _ t (fun s hs=>hg s (by simp[hs])) (Nc _ _ _ _) h;refine⟨w2,?_⟩;rw[e2,bn w w1,e1];simp[opb,Bool.or_assoc,Np,fn]
end
theorem bu_ev{ord:List Row}{N:Int}{ρ:Row->Bool}{σ:Nat->Bool}(hσ:Z5 ord ρ σ):∀n (x:Eu n) (t:T),gS ord n x->VJ ord N n x=some t->Wf ord.length t/\fn t σ=G8 ρ n x
 |0,x,_,_,_=>nomatch x
 |n+1,x,t,hg,h=>by have:=an_ev (b:=VJ ord N n) (ev:=G8 ρ n) hσ (fun a t h1 h2=>bu_ev hσ n a t h1 h2) x.ts (.leaf false) t hg.2 trivial h;exact⟨this.1,by rw[this.2];rfl⟩
theorem buS_ev{ord:List Row}{N:Int}{ρ:Row->Bool}{σ:Nat->Bool}(hσ:Z5 ord ρ σ){x:SA}(hx:Qc x)(hv:KJ x=true)(ht:teS x=false)(hr:∀r,r∈Zr x->r∈ord){t:T}(h:buS ord N x=some t):fn t σ=ag ρ x:=
 (bu_ev hσ x.1 x.2 t (dS x.1 x.2 hx hv ht hr) h).2
open NL
def rv(q:Fq):Rat:=(q.1:Rat)/(q.2:Rat)
theorem EY{n:Nat}(h:0<n):(n:Rat)≠0:=by
 have:((n:Nat):Rat)≠((0:Nat):Rat):=fun q=>by have:=Rat.natCast_inj.1 q;omega
 simpa using this
theorem cZ{n d:Nat}(h:0<d):rv (red n d)=(n:Rat)/(d:Rat):=by
 have hg:0<Nat.gcd n d:=Nat.gcd_pos_of_pos_right _ h;obtain⟨a,ha⟩:=Nat.gcd_dvd_left n d;obtain⟨b,hb⟩:=Nat.gcd_dvd_right n d;have e1:n/Nat.gcd n d=a:=Nat.div_eq_of_eq_mul_right hg ha;have e2:d/Nat.gcd n d=b:=Nat.div_eq_of_eq_mul_right hg hb
 have hb0:0<b:=by
  rcases Nat.eq_zero_or_pos b with q|q
  .rw[q] at hb;omega
  .exact q
 simp only[rv,red,e1,e2];generalize Nat.gcd n d=g at *;have h1:=EY hg;have h2:=EY hb0;rw[ha,hb];rw[Rat.natCast_mul,Rat.natCast_mul]
 grind
theorem XJ{a b c:Fq}(ha:VQ a)(hb:VQ b)(h:Gn a b=some c):rv c=rv a*rv b:=by
 unfold Gn at h;split at h
 .injection h with h
  subst h;have h1:=EY ha.1;have h2:=EY hb.1;rw[cZ (mul_pos ha.1 hb.1),Rat.natCast_mul,Rat.natCast_mul];unfold rv
  grind
 .cases h
theorem gz{a b c:Fq}(ha:VQ a)(hb:VQ b)(h:Mw a b=some c):rv c=rv a+rv b:=by
 unfold Mw at h;split at h
 .injection h with h
  subst h;have h1:=EY ha.1;have h2:=EY hb.1;rw[cZ (mul_pos ha.1 hb.1),Rat.natCast_add,Rat.natCast_mul,Rat.natCast_mul,Rat.natCast_mul];unfold rv
  grind
 .cases h
theorem nI{a:Fq}(ha:VQ a)(h:a.1<=a.2):rv (CQ a)=1-rv a:=by
 have h1:=EY ha.1;obtain⟨k,hk⟩:∃k,a.2=a.1+k:=⟨a.2-a.1,by omega⟩
 simp only[rv,CQ];have e:a.2-a.1=k:=by omega
 rw[e];have:(a.2:Rat)=(a.1:Rat)+(k:Rat):=by rw[hk,Rat.natCast_add]
 grind
open BT
section
variable {ρT:Type}[DecidableEq ρT]
def Ev(ρ:ρT->Bool)(r:ρT)(b:Bool):ρT->Bool:=fun x=>if x=r then b else ρ x
def HB(p:ρT->Rat):List ρT->((ρT->Bool)->Rat)->(ρT->Bool)->Rat
 |[],F,ρ=>F ρ
 |r::U,F,ρ=>(1-p r)*HB p U F (Ev ρ r false)+p r*HB p U F (Ev ρ r true)
theorem V4(ρ:ρT->Bool){r s:ρT}(h:r≠s)(b c:Bool):Ev (Ev ρ r b) s c=Ev (Ev ρ s c) r b:=by
 funext x;unfold Ev;by_cases h1:x=r
 .by_cases h2:x=s
  .exact absurd (h1.symm.trans h2) h
  .simp[h1,h]
 .by_cases h2:x=s
  .simp[h2,Ne.symm h]
  .simp[h1,h2]
theorem mM(ρ:ρT->Bool)(r:ρT)(b c:Bool):Ev (Ev ρ r b) r c=Ev ρ r c:=by funext x;unfold Ev;split<;>rfl
theorem JK(p:ρT->Rat):∀(U:List ρT) (F G:(ρT->Bool)->Rat) (ρ:ρT->Bool),(∀σ,F σ=G σ)->HB p U F ρ=HB p U G ρ
 |[],F,G,ρ,h=>h ρ
 |r::U,F,G,ρ,h=>by simp only[HB,JK p U F G _ h]
theorem Kq(p:ρT->Rat)(r:ρT)(b:Bool):∀(U:List ρT) (F:(ρT->Bool)->Rat) (ρ:ρT->Bool),r∉U->HB p U F (Ev ρ r b)=HB p U (fun σ=>F (Ev σ r b)) ρ
 |[],F,ρ,_=>rfl
 |s::U,F,ρ,h=>by simp only[List.mem_cons,not_or] at h;simp only[HB];rw[V4 ρ h.1,V4 ρ h.1,Kq p r b U F _ h.2,Kq p r b U F _ h.2]
theorem NY(p:ρT->Rat)(r:ρT):∀(U:List ρT) (F:(ρT->Bool)->Rat) (ρ:ρT->Bool),r∈U->U.Nodup ->
  HB p U F ρ=(1-p r)*HB p U (fun σ=>F (Ev σ r false)) ρ+p r*HB p U (fun σ=>F (Ev σ r true)) ρ
 |[],_,_,h,_=>by cases h
 |s::U,F,ρ,h,hn=>by
  obtain⟨hs,Rp⟩:=List.nodup_cons.1 hn;by_cases e:r=s
  .subst e;simp only[HB];rw[<-Kq p r false U F (Ev ρ r false) hs,<-Kq p r false U F (Ev ρ r true) hs,<-Kq p r true U F (Ev ρ r false) hs,<-Kq p r true U F (Ev ρ r true) hs];simp only[mM]
   grind
  .have hr:r∈U:=by
    rcases List.mem_cons.1 h with q|q
    .exact absurd q e
    .exact q
   simp only[HB];rw[NY p r U F _ hr Rp,NY p r U F _ hr Rp]
   grind
theorem Tw(p:ρT->Rat)(c:Rat):∀(U:List ρT) (ρ:ρT->Bool),HB p U (fun _=>c) ρ=c
 |[],_=>rfl
 |r::U,ρ=>by simp only[HB,Tw p c U];grind
theorem TV(p:ρT->Rat)(F:(ρT->Bool)->Rat):∀(U:List ρT) (ρ:ρT->Bool),HB p U (fun σ=>1-F σ) ρ=1-HB p U F ρ
 |[],_=>rfl
 |r::U,ρ=>by simp only[HB,TV p F U];grind
theorem Xv(p:ρT->Rat)(hp:∀r,0<=p r/\p r<=1)(F G:(ρT->Bool)->Rat)(h:∀σ,F σ<=G σ):∀(U:List ρT) (ρ:ρT->Bool),HB p U F ρ<=HB p U G ρ
 |[],ρ=>h ρ
 |r::U,ρ=>by
  have h1:=Xv p hp F G h U (Ev ρ r false);have h2:=Xv p hp F G h U (Ev ρ r true);have h3:=hp r;simp only[HB];have h4:(1-p r)*HB p U F (Ev ρ r false)<=(1-p r)*HB p U G (Ev ρ r false):=Rat.mul_le_mul_of_nonneg_left h1 (by grind);have h5:p r*HB p U F (Ev ρ r true)<=p r*HB p U G (Ev ρ r true):=Rat.mul_le_mul_of_nonneg_left h2 h3.1
  grind
end
def bR(b:Bool):Rat:=if b then 1 else 0
def dR(pv:Nat->Rat):T->Rat
 |.leaf b=>bR b
 |.node v l h=>(1-pv v)*dR pv l+pv v*dR pv h
theorem XD{ρT:Type}[DecidableEq ρT](p:ρT->Rat)(U ord:List ρT)(hU:U.Nodup)(ho:ord.Nodup)(ff:∀r,r∈ord->r∈U)(pJ:(ρT->Bool)->Nat->Bool)(oe:∀ρ i r,ord[i]? = some r->pJ ρ i=ρ r)
  (pv:Nat->Rat) (hpv:∀i r,ord[i]? = some r->pv i=p r):∀(t:T),Wf ord.length t->∀ρ,HB p U (fun σ=>bR (fn t (pJ σ))) ρ=dR pv t
 |.leaf b,_,ρ=>by have:=Tw p (bR b) U ρ;simpa only[fn,dR] using this
 |.node v l h,w,ρ=>by
  obtain⟨w1,w2,w3,w4,w5,w6⟩:=w;obtain⟨r,hr⟩:∃r,ord[v]? = some r:=⟨_,List.getElem?_eq_getElem w1⟩
  have hrU:=ff r (List.mem_of_getElem? hr);have ihl:=XD p U ord hU ho ff pJ oe pv hpv l w5 ρ;have ihh:=XD p U ord hU ho ff pJ oe pv hpv h w6 ρ
  have indep:∀(t:T),Wf ord.length t->v<top ord.length t->∀σ b,fn t (pJ (Ev σ r b))=fn t (pJ σ):=by
   intro t wt ht σ b;refine Hk wt fun i hi Q2=>?_;obtain⟨s,hs⟩:∃s,ord[i]? = some s:=⟨_,List.getElem?_eq_getElem Q2⟩
   rw[oe _ i s hs,oe _ i s hs]
   have CF:s≠r:=by rintro rfl;have h1:=List.getElem?_eq_some_iff.1 hs;have h2:=List.getElem?_eq_some_iff.1 hr;have:=List.pairwise_iff_getElem.1 ho v i h2.1 h1.1 (by omega);exact this (h2.2.trans h1.2.symm)
   simp[Ev,CF]
  rw[NY p r U _ ρ hrU hU]
  have e1:∀σ:ρT->Bool,bR (fn (.node v l h) (pJ (Ev σ r false)))=bR (fn l (pJ σ)):=fun σ=>by
   have:pJ (Ev σ r false) v=false:=by rw[oe _ v r hr];simp[Ev]
   simp only[fn,this];rw[<-indep l w5 w2 σ false];rfl
  have e2:∀σ:ρT->Bool,bR (fn (.node v l h) (pJ (Ev σ r true)))=bR (fn h (pJ σ)):=fun σ=>by
   have:pJ (Ev σ r true) v=true:=by rw[oe _ v r hr];simp[Ev]
   simp only[fn,this];rw[<-indep h w6 w3 σ true];rfl
  rw[JK p U _ _ ρ e1,JK p U _ _ ρ e2,ihl,ihh,dR,hpv v r hr]
theorem mix_rv{p lo hi q:Fq}(vp:VQ p)(hp:p.1<=p.2)(vl:VQ lo)(vh:VQ hi)(h:mix p lo hi=some q):rv q=(1-rv p)*rv lo+rv p*rv hi:=by
 unfold mix at h;cases h1:Gn (CQ p) lo with
 |none=>rw[h1] at h;cases h
 |some a=>
  rw[h1,bind_some] at h;cases h2:Gn p hi with
  |none=>rw[h2] at h;cases h
  |some b=>
   rw[h2,bind_some] at h;have vc:VQ (CQ p):=Ou vp hp;rw[gz (O6 vc vl h1) (O6 vp vh h2) h,XJ vc vl h1,XJ vp vh h2,nI vp hp]
def yA(ord:List Row)(l:List Ch)(v:Nat):Rat:=rv (Qa l (ord.getD v (0,0)))
theorem rv_0:rv (0,1)=0:=by simp[rv];grind
theorem rv_1:rv (1,1)=1:=by simp[rv];grind
theorem aO{ord:List Row}{l:List Ch}(Bg:X2 l)(hv:VL l):∀(L:List T),Cl L->∀vs,Hc ord l (CH L)=some vs->vs.length=L.length+2/\∀t,sub L t->rv (vs.getD (code L t).toNat (0,1))=dR (yA ord l) t:=by
 intro L;refine Gl (P:=fun L=>Cl L->∀vs,Hc ord l (CH L)=some vs->vs.length=L.length+2/\∀t,sub L t->rv (vs.getD (code L t).toNat (0,1))=dR (yA ord l) t) ?_ ?_ L
 .intro _ vs h;injection h with h
  subst h;refine⟨rfl,fun t ht=>?_⟩;cases t with
  |leaf b=>cases b<;>simp[code,dR,bR,rv_0,rv_1]
  |node v a b=>simp[sub] at ht
 .intro L t ih hc vs h;obtain⟨c1,c2,c3⟩:=ER.1 hc;rw[JP hc,TJ] at h;cases ho:Hc ord l (CH L) with
  |none=>rw[ho] at h;cases h
  |some us=>
   rw[ho] at h;obtain⟨i1,i2⟩:=ih c1 us ho
   have hq:∀q,q∈us->VQ q:=Og Bg hv (CH L) _ (by
    intro vs h q hq;injection h with h
    subst h;rcases List.mem_cons.1 hq with rfl|hq
    .exact RC
    .rw[List.mem_singleton.1 hq];exact Pf) us ho
   cases t with
   |leaf b=>exact c3.elim
   |node v a b=>
    obtain⟨vq,_,hle⟩:=Nr Bg hv (ord.getD v (0,0));simp only[V1,bind_some,nd,toNat_natCast] at h;cases hm:mix (Qa l (ord.getD v (0,0))) (us.getD (code L a).toNat (0,1)) (us.getD (code L b).toNat (0,1)) with
    |none=>rw[hm] at h;cases h
    |some q=>
     rw[hm,map_some] at h;injection h with h
     subst h;have hmr:=mix_rv vq hle (LV hq _) (LV hq _) hm;rw[i2 a c3.1,i2 b c3.2] at hmr
     have left:∀n:Nat,n<us.length->(us++[q]).getD n (0,1)=us.getD n (0,1):=fun n hn=>by rw[gD,gD,gE hn]
     refine⟨by simp;omega,fun s hs=>?_⟩
     have old:sub L s->rv ((us++[q]).getD (code (L++[T.node v a b]) s).toNat (0,1))=dR (yA ord l) s:=fun hL=>by rw[Hi [T.node v a b] hL];have h1:=HS hL;have h2:=Cd L s;rw[left _ (by omega)];exact i2 s hL
     cases s with
     |leaf c=>exact old trivial
     |node v' a' b'=>
      have hs:T.node v' a' b'∈L++[T.node v a b]:=hs;rcases List.mem_append.1 hs with hs|hs
      .exact old hs
      .have hs:=List.mem_singleton.1 hs;rw[hs]
       have hp:code (L++[T.node v a b]) (.node v a b)=(L.length:Int)+2:=by simp only[code];rw[MV [] c2]
       rw[hp];have e:((L.length:Int)+2).toNat=us.length:=by omega
       rw[e,gD,gF (le_refl _)];simp only[Nat.sub_self,List.getElem?_cons_zero,getD_some,dR];exact hmr
def pR(l:List Ch)(r:Row):Rat:=rv (Qa l r)
def zR(ord:List Row)(σ:Row->Bool)(i:Nat):Bool:=match ord[i]? with
 |some r=>σ r
 |none=>false
theorem Rb{l:List Ch}{x:SA}{q:Fq}(Bg:X2 l)(hx:Qc x)(h:EX l x q)(U:List Row)(hU:U.Nodup)(ff:∀r,r∈Zr x->r∈U) :
  rv q=HB (pR l) U (fun σ=>bR (ag σ x)) (fun _=>true):=by
 obtain⟨ord,t,ho,hm,h8,Lq,xq,hb,w,hv,hd⟩:=h;obtain⟨hc,hs,_⟩:=post_nil t;unfold ZX at hd;cases U4:Hc ord l (CH (post t [])) with
 |none=>rw[U4] at hd;cases hd
 |some vs=>
  rw[U4,map_some] at hd;injection hd with hd
  have h1:=(aO Bg hv (post t []) hc vs U4).2 t hs;rw[hd] at h1;have UZ:ord.Nodup:=ho.2;have h2:=XD (pR l) U ord hU UZ (fun r hr=>ff r ((hm r).1 hr)) (zR ord) (fun ρ i r hi=>by simp[zR,hi]) (yA ord l) (fun i r hi=>by simp[yA,pR,gD,hi]) t w (fun _=>true);rw[h1,<-h2];refine JK _ _ _ _ _ fun σ=>?_;have:=buS_ev (ord:=ord) (N:=4096) (ρ:=σ) (σ:=zR ord σ) (fun i r hi=>by simp[zR,hi]) hx Lq xq (fun r hr=>(hm r).2 hr) hb;rw[this]
theorem bR_not(b:Bool):bR (!b)=1-bR b:=by cases b<;>simp[bR]<;>grind
theorem bR_le{a b:Bool}(h:a=true->b=true):bR a<=bR b:=by
 cases a with
 |false=>cases b<;>simp[bR]<;>decide
 |true=>rw[h rfl];exact Rat.le_refl
theorem rv_01{q:Fq}(h0:0<q.2)(h:q.1<=q.2):0<=rv q/\rv q<=1:=by
 have h2:(0:Rat)<(q.2:Rat):=by have:((0:Nat):Rat)<((q.2:Nat):Rat):=Rat.natCast_lt_natCast.2 h0;simpa using this
 have h3:(0:Rat)<=(q.1:Rat):=by have:((0:Nat):Rat)<=((q.1:Nat):Rat):=Rat.natCast_le_natCast.2 (Nat.zero_le _);simpa using this
 have h4:(q.1:Rat)<=(q.2:Rat):=Rat.natCast_le_natCast.2 h;have h5:(0:Rat)<=(q.2:Rat)⁻¹:=Rat.le_of_lt (Rat.inv_pos.2 h2);have h6:(q.2:Rat)≠0:=fun e=>by rw[e] at h2;exact absurd h2 (Rat.lt_irrefl)
 have h7:0<=((q.2:Rat)-(q.1:Rat))*(q.2:Rat)⁻¹:=Rat.mul_nonneg (by grind) h5;have h8:(q.2:Rat)*(q.2:Rat)⁻¹=1:=by grind
 unfold rv;rw[Rat.div_def];constructor
 .exact Rat.mul_nonneg h3 h5
 .grind
theorem pR_01{l:List Ch}(Bg:X2 l)(hv:VL l)(r:Row):0<=pR l r/\pR l r<=1:=by obtain⟨vq,_,hle⟩:=Nr Bg hv r;exact rv_01 vq.pos hle
theorem sJ{l:List Ch}{x y:SA}{q q':Fq}(Bg:X2 l)(hx:Qc x)(hy:Qc y)(h:EX l x q)(h':EX l y q')(U:List Row)(hU:U.Nodup)(hxU:∀r,r∈Zr x->r∈U)(hyU:∀r,r∈Zr y->r∈U)
  (U9:∀σ,ag σ y=!ag σ x):rv q+rv q'=1:=by
 rw[Rb Bg hx h U hU hxU,Rb Bg hy h' U hU hyU];rw[JK (pR l) U (fun σ=>bR (ag σ y)) (fun σ=>1-bR (ag σ x)) _ (fun σ=>by rw[U9,bR_not]),TV]
 grind
theorem ex_le{l:List Ch}{x y:SA}{q q':Fq}(Bg:X2 l)(hv:VL l)(hx:Qc x)(hy:Qc y)(h:EX l x q)(h':EX l y q')(U:List Row)(hU:U.Nodup)(hxU:∀r,r∈Zr x->r∈U)(hyU:∀r,r∈Zr y->r∈U)
  (U9:∀σ,ag σ x=true->ag σ y=true):rv q<=rv q':=by
 rw[Rb Bg hx h U hU hxU,Rb Bg hy h' U hU hyU];exact Xv (pR l) (pR_01 Bg hv) _ _ (fun σ=>bR_le (U9 σ)) U _
def ox(ds:Nat->Nat):Nat->Nat->Nat
 |_,0=>1
 |k,m+1=>ds k*ox ds (k+1) m
theorem iB{ds:Nat->Nat}(h:∀i,0<ds i):∀m k,0<ox ds k m
 |0,k=>Nat.one_pos
 |m+1,k=>mul_pos (h k) (iB h m (k+1))
theorem qT{ds:Nat->Nat}{M:Nat}(h:∀i,ds i<=M):∀m k,ox ds k m<=M^m
 |0,k=>le_refl _
 |m+1,k=>by rw[Nat.pow_succ,mul_comm];exact mul_le_mul (h k) (qT h m (k+1))
theorem XK{n:Nat}{pv:Nat->Rat}{ds:Nat->Nat}(hd:∀i,∃a b:Nat,pv i*(ds i:Rat)=(a:Rat)/\(1-pv i)*(ds i:Rat)=(b:Rat)) :
  ∀(m k:Nat) (t:T),k+m=n->Wf n t->k<=top n t->∃N:Nat,dR pv t*(ox ds k m:Rat)=(N:Rat)
 |_,k,.leaf b,_,_,_=>by
  cases b with
  |false=>exact⟨0,by simp[dR,bR]⟩
  |true=>exact⟨_,by simp[dR,bR];rfl⟩
 |0,k,.node v l h,hk,w,ht=>by have:=w.1;simp only[top] at ht;omega
 |m+1,k,.node v l h,hk,w,ht=>by
  obtain⟨w1,w2,w3,w4,w5,w6⟩:=w;simp only[top] at ht;by_cases e:k=v
  .subst e;obtain⟨N1,e1⟩:=XK hd m (k+1) l (by omega) w5 w2;obtain⟨N2,e2⟩:=XK hd m (k+1) h (by omega) w6 w3;obtain⟨a,b,h1,h2⟩:=hd k;refine⟨b*N1+a*N2,?_⟩;simp only[dR,ox,Rat.natCast_mul,Rat.natCast_add,<-e1,<-e2,<-h1,<-h2];generalize dR pv l=x;generalize dR pv h=y;generalize pv k=p;generalize(ds k:Rat)=d;generalize(ox ds (k+1) m:Rat)=c
   grind
  .obtain⟨N,e1⟩:=XK hd m (k+1) (.node v l h) (by omega) ⟨w1,w2,w3,w4,w5,w6⟩ (by simp only[top];omega);refine⟨ds k*N,?_⟩;simp only[ox,Rat.natCast_mul,<-e1];generalize dR pv (.node v l h)=x;generalize(ds k:Rat)=d;generalize(ox ds (k+1) m:Rat)=c
   grind
theorem vG{pv:Nat->Rat}(hp:∀i,0<=pv i/\pv i<=1):∀t:T,0<=dR pv t/\dR pv t<=1
 |.leaf b=>by cases b<;>simp[dR,bR]<;>decide
 |.node v l h=>by
  have h1:=vG hp l;have h2:=vG hp h;have h3:=hp v;have a1:0<=(1-pv v)*dR pv l:=Rat.mul_nonneg (by grind) h1.1;have a2:0<=pv v*dR pv h:=Rat.mul_nonneg h3.1 h2.1;have a3:0<=(1-pv v)*(1-dR pv l):=Rat.mul_nonneg (by grind) (by grind);have a4:0<=pv v*(1-dR pv h):=Rat.mul_nonneg h3.1 (by grind);simp only[dR];constructor
  .grind
  .grind
theorem ex_dR{l:List Ch}{x:SA}{q:Fq}(Bg:X2 l)(h:EX l x q):∃(ord:List Row) (t:T),ord.length<=8/\Wf ord.length t/\rv q=dR (yA ord l) t/\VQ q/\VL l:=by
 obtain⟨ord,t,ho,hm,h8,Lq,xq,hb,w,hv,hd⟩:=h;obtain⟨hc,hs,_⟩:=post_nil t;unfold ZX at hd;cases U4:Hc ord l (CH (post t [])) with
 |none=>rw[U4] at hd;cases hd
 |some vs=>
  rw[U4,map_some] at hd;injection hd with hd
  have h1:=(aO Bg hv (post t []) hc vs U4).2 t hs;rw[hd] at h1;refine⟨ord,t,h8,w,h1,?_,hv⟩;rw[<-hd]
  exact LV (Og Bg hv (CH (post t [])) (some [(0,1),(1,1)]) (fun vs h q hq=>by
   injection h with h
   subst h;rcases List.mem_cons.1 hq with h|h
   .rw[h];exact RC
   .rw[List.mem_singleton.1 h];exact Pf) vs U4) _
theorem qOf_den{l:List Ch}(Bg:X2 l)(hf:T6 l)(r:Row):(Qa l r).2<=B^4:=by
 unfold Qa;cases h:l.find? (fun c=>decide (c.1=r)) with
 |none=>exact Nat.one_le_pow _ _ CU
 |some c=>
  have hm:=List.mem_of_find?_eq_some h;exact Nat.le_of_lt (Nat.lt_of_lt_of_le (CY (Bg c hm).l2) (Nat.pow_le_pow_right CU (hf.1 c hm).2))
theorem SR{a b:Nat}(hb:0<b)(h:(a:Rat)/(b:Rat)<=1):a<=b:=by
 have h2:(0:Rat)<(b:Rat):=by have:((0:Nat):Rat)<((b:Nat):Rat):=Rat.natCast_lt_natCast.2 hb;simpa using this
 have h6:(b:Rat)≠0:=fun e=>by rw[e] at h2;exact absurd h2 (Rat.lt_irrefl)
 have h3:0<=(1-(a:Rat)/(b:Rat))*(b:Rat):=Rat.mul_nonneg (by grind) (Rat.le_of_lt h2);have h5:(1-(a:Rat)/(b:Rat))*(b:Rat)=(b:Rat)-(a:Rat):=by grind
 rw[h5] at h3;have h4:(a:Rat)<=(b:Rat):=by grind
 exact Rat.natCast_le_natCast.1 h4
theorem Kl{l:List Ch}{x:SA}{q:Fq}(Bg:X2 l)(hf:T6 l)(h:EX l x q):VQ q/\q.1<=q.2/\q.2<=B^32:=by
 obtain⟨ord,t,h8,w,e,hq,hv⟩:=ex_dR Bg h
 have hp:∀i,0<=yA ord l i/\yA ord l i<=1:=fun i=>by obtain⟨vq,_,hle⟩:=Nr Bg hv (ord.getD i (0,0));exact rv_01 vq.pos hle
 have h01:=vG hp t;rw[<-e] at h01;have hle:q.1<=q.2:=SR hq.pos h01.2;refine⟨hq,hle,?_⟩
 let ds:Nat->Nat:=fun i=>(Qa l (ord.getD i (0,0))).2
 have hds:∀i,0<ds i:=fun i=>(Nr Bg hv (ord.getD i (0,0))).1.pos
 have hd:∀i,∃a b:Nat,yA ord l i*(ds i:Rat)=(a:Rat)/\(1-yA ord l i)*(ds i:Rat)=(b:Rat):=fun i=>by
  obtain⟨vq,_,hle⟩:=Nr Bg hv (ord.getD i (0,0));have hc:=EY vq.pos;obtain⟨k,hk⟩:∃k,(Qa l (ord.getD i (0,0))).2=(Qa l (ord.getD i (0,0))).1+k:=⟨_,(Nat.add_sub_cancel' hle).symm⟩
  refine⟨(Qa l (ord.getD i (0,0))).1,k,?_,?_⟩
  .show((Qa l (ord.getD i (0,0))).1:Rat)/((Qa l (ord.getD i (0,0))).2:Rat)*((Qa l (ord.getD i (0,0))).2:Rat)=_
   grind
  .show(1-((Qa l (ord.getD i (0,0))).1:Rat)/((Qa l (ord.getD i (0,0))).2:Rat))*((Qa l (ord.getD i (0,0))).2:Rat)=_;have Qy:((Qa l (ord.getD i (0,0))).2:Rat)=((Qa l (ord.getD i (0,0))).1:Rat)+(k:Rat):=by rw[<-Rat.natCast_add,<-hk]
   grind
 obtain⟨N,hN⟩:=XK hd ord.length 0 t (by omega) w (Nat.zero_le _);rw[<-e] at hN;have hP:=iB hds ord.length 0
 have hB:ox ds 0 ord.length<=B^32:=by
  have h1:=qT (M:=B^4) (fun i=>qOf_den Bg hf (ord.getD i (0,0))) ord.length 0;have h2:(B^4)^ord.length<=(B^4)^8:=Nat.pow_le_pow_right (Nat.pow_pos CU) h8;have h3:(B^4)^8=B^32:=by rw[<-Nat.pow_mul]
  rw[h3] at h2;exact le_trans h1 h2
 have hmul:q.1*ox ds 0 ord.length=N*q.2:=by
  have hc:=EY hq.pos;apply Rat.natCast_inj.1;rw[Rat.natCast_mul,Rat.natCast_mul,<-hN];unfold rv;generalize(ox ds 0 ord.length:Rat)=c
  grind
 have hdv:q.2 ∣ q.1*ox ds 0 ord.length:=⟨N,by rw[hmul,mul_comm]⟩
 have hcop:Coprime q.2 q.1:=by rw[Coprime,gcd_comm];exact hq.gcd
 have:=Nat.Coprime.dvd_of_dvd_mul_left hcop hdv;exact le_trans (Nat.le_of_dvd hP this) hB
theorem wc{a b:Fq}(ha:VQ a)(hb:VQ b)(h:rv a=rv b):a=b:=by
 have h1:=EY ha.pos;have h2:=EY hb.pos
 have hm:a.1*b.2=b.1*a.2:=by
  apply Rat.natCast_inj.1;rw[Rat.natCast_mul,Rat.natCast_mul];unfold rv at h
  grind
 have c1:Coprime a.2 a.1:=by rw[Coprime,gcd_comm];exact ha.gcd
 have c2:Coprime b.2 b.1:=by rw[Coprime,gcd_comm];exact hb.gcd
 have d1:a.2 ∣ b.2:=Nat.Coprime.dvd_of_dvd_mul_left c1 ⟨b.1,by rw[hm,mul_comm]⟩;have d2:b.2 ∣ a.2:=Nat.Coprime.dvd_of_dvd_mul_left c2 ⟨a.1,by rw[<-hm,mul_comm]⟩;have e2:a.2=b.2:=Nat.dvd_antisymm d1 d2
 have e1:a.1=b.1:=by rw[e2] at hm;exact Nat.eq_of_mul_eq_mul_right hb.pos hm
 exact Prod.ext e1 e2
theorem H9{a b:Nat}(ha:a<=B^32)(hb:b<=B^32):a*b<=B^64:=by
 have h:=mul_le_mul ha hb
 rwa [<-Nat.pow_add] at h
theorem Sj{a b:Nat}(ha:a<=B^64)(hb:b<=B^32):a*b<=B^96:=by
 have h:=mul_le_mul ha hb
 rwa [<-Nat.pow_add] at h
theorem jr:2*B^64<B^128:=by decide +kernel
theorem AAG:B^96<B^128:=by decide +kernel
theorem JU{a:Nat}(h:a<=B^64):BO a:=by
                              have:=jr;have:B^64<B^128:=by omega
                              exact Nat.lt_of_le_of_lt h this
theorem ZC{a:Nat}(h:a<=B^96):BO a:=Nat.lt_of_le_of_lt h AAG
theorem sI{a b:Fq}(ha:VQ a)(hb:VQ b)(a1:a.1<=a.2)(a2:a.2<=B^32)(b1:b.1<=b.2)(b2:b.2<=B^32)(h:rv a+rv b=1):Mw a b=some (1,1):=by
 have k1:=H9 (le_trans a1 a2) b2;have k2:=H9 (le_trans b1 b2) a2;have k3:=H9 a2 b2
 have hl:BO (a.1*b.2+b.1*a.2):=by have:=jr;exact Nat.lt_of_le_of_lt (Nat.add_le_add k1 k2) (by omega)
 have e:Mw a b=some (red (a.1*b.2+b.1*a.2) (a.2*b.2)):=if_pos ⟨⟨JU k1,JU k2,JU k3⟩,hl⟩;have hr:=gz ha hb e;have hq:=tI ha hb e;rw[e,wc hq Pf (by rw[hr,h,rv_1])]
def Kf(x y:Fq):Fq:=red (x.1*y.2) (x.2*y.1)
theorem zO{x y:Fq}(hx:VQ x)(hy:VQ y)(h0:0<y.1):rv (Kf x y)*rv y=rv x:=by
 have h1:=EY hx.pos;have h2:=EY hy.pos;have h3:=EY h0;rw[Kf,cZ (mul_pos hx.pos h0),Rat.natCast_mul,Rat.natCast_mul];unfold rv
 grind
theorem quo_ok{x y:Fq}(hx:VQ x)(hy:VQ y)(x1:x.1<=x.2)(x2:x.2<=B^32)(y1:y.1<=y.2)(y2:y.2<=B^32)(h0:0<y.1)(hle:rv x<=rv y) :
  VQ (Kf x y)/\(Kf x y).1<=(Kf x y).2/\Gn (Kf x y) y=some x:=by
 have k1:=H9 (le_trans x1 x2) y2;have k2:=H9 x2 (le_trans y1 y2);have hp:0<x.2*y.1:=mul_pos hx.pos h0;have hv:VQ (Kf x y):=cG hp (JU k1) (JU k2);have e:=zO hx hy h0;have g1:(Kf x y).1<=B^64:=le_trans (Nat.div_le_self _ _) k1;have g2:(Kf x y).2<=B^64:=le_trans (Nat.div_le_self _ _) k2;have hm:Gn (Kf x y) y=some (red ((Kf x y).1*y.1) ((Kf x y).2*y.2)):=if_pos ⟨ZC (Sj g1 (le_trans y1 y2)),ZC (Sj g2 y2)⟩;have hr:=XJ hv hy hm;refine⟨hv,?_,by rw[hm,wc (O6 hv hy hm) hx (by rw[hr,e])]⟩;apply SR hv.pos;show rv (Kf x y)<=1
 have fj:0<rv y:=by
  unfold rv;rw[Rat.div_def]
  have h3:∀n:Nat,0<n->(0:Rat)<(n:Rat):=fun n hn=>by have:((0:Nat):Rat)<((n:Nat):Rat):=Rat.natCast_lt_natCast.2 hn;simpa using this
  exact Rat.mul_pos (h3 _ h0) (Rat.inv_pos.2 (h3 _ hy.pos))
 have hi:0<=(rv y-rv x)*(rv y)⁻¹:=Rat.mul_nonneg (by grind) (Rat.le_of_lt (Rat.inv_pos.2 fj));have CF:rv y≠0:=fun q=>by rw[q] at fj;exact absurd fj Rat.lt_irrefl
 rw[<-e] at hi;generalize rv (Kf x y)=p at hi ⊢;generalize rv y=q at hi CF;have h5:(q-p*q)*q⁻¹=1-p:=by grind
 rw[h5] at hi
 grind
def ErD(r:D):Prop:=∃dq e,r=.AY [dq,.i .i64 e]/\e≠0/\Kx dq
theorem ErD.AG{r:D}(h:ErD r):AG r=true:=by obtain⟨dq,e,rfl,_,hq⟩:=h;simp[DE.AG,A9,hq.AG]
theorem Oh(e:Int)(h:e≠0):ErD (.AY [.agg [AD true [] .ro,AD true [] .ro],.i .i64 e]):=⟨_,e,rfl,h,CP⟩
def GvD(l:List Ch)(m y:SA)(r1 r2 r:D):Prop:=ErD r\/∃q1 q2 d1 d2 dq,r1=.AY [d1,.i .i64 0]/\Rq q1 d1/\EX l m q1/\r2=.AY [d2,.i .i64 0]/\Rq q2 d2/\EX l y q2/\0<q2.1/\r=.AY [dq,.i .i64 0]/\Rq (Kf q1 q2) dq
theorem v23e(da db:D)(nc:Bool)(l:List Ch)(xt:strip da=da)(hsb:strip db=db)(hna:AG da=true)(hnb:AG db=true)(dm:D)(e:Int)(he:e≠0)
  (h20:A0 (call dp) 20 [da,db]=some (.AY [dm,.i .i64 e])):∃r,A0 (call dp) 23 [da,db,.i .i64 4096,Ep nc l]=some r/\ErD r:=by
 apply j23 _ _ _ _ _ (by simp[A9,xt,hsb,hna,hnb]) (fun r h=>h.AG);rw[xt,hsb];simp[s23,h20,he,SC,st2,CE];exact Oh e he
theorem v23(da db:D)(nc:Bool)(l:List Ch)(xt:strip da=da)(hsb:strip db=db)(hna:AG da=true)(hnb:AG db=true)(Bg:X2 l)(hf:T6 l)(m y:SA)(dm r1 r2:D)
  (h20:A0 (call dp) 20 [da,db]=some (.AY [dm,.i .i64 0]))
  (h1:A0 (call dp) 21 [dm,.i .i64 4096,Ep nc l]=some r1) (k1:ExD l m r1)
  (h2:A0 (call dp) 21 [db,.i .i64 4096,Ep nc l]=some r2) (k2:ExD l y r2) :
  ∃r,A0 (call dp) 23 [da,db,.i .i64 4096,Ep nc l]=some r/\GvD l m y r1 r2 r:=by
 apply j23 _ _ _ _ _ (by simp[A9,xt,hsb,hna,hnb]) (by
  rintro r (h|⟨q1,q2,d1,d2,dq,_,_,_,_,_,_,_,rfl,hq⟩)
  .exact h.AG
  .simp[DE.AG,A9,hq.AG])
 rw[xt,hsb];rcases k1 with⟨dq,e,rfl,he,hq⟩|⟨q1,d1,rfl,xT,x1⟩
 .obtain⟨n1,n2,a,b,rfl⟩:=hq;simp only[eQ] at h1;simp[s23,h20,h1,he,SC,st2,CE];exact .inl (Oh e he)
 rcases k2 with⟨dq,e,rfl,he,hq⟩|⟨q2,d2,rfl,Qv,x2⟩
 .obtain⟨n1,n2,a,b,rfl⟩:=hq;obtain⟨m1,m2,rfl,f1,f2⟩:=xT;simp only[eQ] at h1 h2;simp[s23,h20,h1,h2,he,SC,st2,CE];exact .inl (Oh e he)
 obtain⟨Lh,a1,a2⟩:=Kl Bg hf x1;obtain⟨EM,b1,b2⟩:=Kl Bg hf x2;have hq1':=xT;have hq2':=Qv;obtain⟨n1,n2,rfl,f1,f2⟩:=xT;obtain⟨m1,m2,rfl,g1,g2⟩:=Qv;by_cases h0:q2.1=0
 .have hz:B1 q2.1=[]:=Mp.2 h0;simp only[eQ,hz] at h1 h2;simp[s23,h20,h1,h2,SC,st2,CE];exact .inl (Oh 2 (by decide))
 .have CF:B1 q2.1≠[]:=fun h=>h0 (Mp.1 h);have hp:0<q2.1:=by omega
  have l1:BO (q1.1*q2.2):=JU (H9 (le_trans a1 a2) b2);have l2:BO (q1.2*q2.1):=JU (H9 a2 (le_trans b1 b2));have h70:=v70 n1 m2 (B1 q1.1) (B1 q2.2) (Cr.2 Lh.f1) (Cr.2 EM.f2) (CS _) (CS _);have h70':=v70 n2 m1 (B1 q1.2) (B1 q2.1) (Cr.2 Lh.f2) (Cr.2 EM.f1) (CS _) (CS _);rw[CB,CB,if_pos l1] at h70;rw[CB,CB,if_pos l2] at h70';obtain⟨r,e3,hr⟩:=v71 false false (q1.1*q2.2) (q1.2*q2.1) l1 l2 (by have:=mul_pos Lh.pos hp;omega) (fun h=>by cases h) (fun h=>by cases h);obtain⟨dq,rfl,hq⟩:=hr;have fU:=hq;obtain⟨k1,k2,rfl,k3,k4⟩:=hq
  have fin:GvD l m y (.AY [eQ n1 n2 (B1 q1.1) (B1 q1.2),.i .i64 0]) (.AY [eQ m1 m2 (B1 q2.1) (B1 q2.2),.i .i64 0]) (.AY [eQ k1 k2 (B1 (red (q1.1*q2.2) (q1.2*q2.1)).1) (B1 (red (q1.1*q2.2) (q1.2*q2.1)).2),.i .i64 0]):=
   .inr ⟨q1,q2,_,_,_,rfl,hq1',x1,rfl,hq2',x2,hp,rfl,fU⟩
  simp only[eQ] at h1 h2 e3 fin;simp[s23,h20,h1,h2,h70,h70',e3,CF,SC,st2,CE];exact fin
section
variable {Z β:Type}(g:Z->β)
def upIt(p:Vl × Z):Vl × β:=(p.1,g p.2)
def Ns(f:Fc Z):Fc β:=⟨f.kind,f.row,f.NG,f.args.map g,f.fn,f.inl,f.items.map (upIt g),f.op,f.bound,f.exp⟩
def XO(t:Tm Z):Tm β:=⟨t.c,t.nl,t.fs.map (Ns g)⟩
def US(x:An Z):An β:=⟨x.nl,x.ts.map (XO g)⟩
variable {g}{e:Z->D}{e':β->D}
theorem up_fc(h:∀a,e' (g a)=e a)(f:Fc Z):EF e' (Ns g f)=EF e f:=by
 have h1:(f.args.map g).map (fun a=>[e' a])=f.args.map fun a=>[e a]:=by rw[map_map];exact map_congr_left fun a _=>by simp[h]
 have h2:(f.items.map (upIt g)).map (Gw e')=f.items.map (Gw e):=by rw[map_map];exact map_congr_left fun p _=>by simp[upIt,Gw,h]
 simp only[EF,Ns,Bl,B6,h1,h2]
theorem up_an(h:∀a,e' (g a)=e a)(x:An Z):CL e' (US g x)=CL e x:=by
 have ht:∀t:Tm Z,Cj e' (XO g t)=Cj e t:=fun t=>by
  have:(t.fs.map (Ns g)).map (EF e')=t.fs.map (EF e):=by rw[map_map];exact map_congr_left fun f _=>up_fc h f
  simp only[Cj,XO,BI,this]
 have:(x.ts.map (XO g)).map (Cj e')=x.ts.map (Cj e):=by rw[map_map];exact map_congr_left fun t _=>ht t
 simp only[CL,Gx,US,this]
variable {ok:Z->Prop}{ok':β->Prop}
theorem zp(h:∀a,ok a->ok' (g a)){f:Fc Z}(hf:KU ok f):KU ok' (Ns g f):=
 ⟨hf.kind,hf.row,fun q=>by simp[Ns,hf.NG q],by simpa[Ns] using hf.OG,fun a ha=>by
  simp only[Ns,mem_map] at ha;obtain⟨b,hb,rfl⟩:=ha;exact h b (hf.args b hb),hf.fn,fun q=>by simp[Ns,hf.inl q],by simpa[Ns] using hf.NH,fun p hp=>by
  simp only[Ns,mem_map] at hp;obtain⟨b,hb,rfl⟩:=hp
  exact⟨(hf.items b hb).1,h b.2 (hf.items b hb).2⟩,hf.op,hf.bound,hf.exp⟩
theorem up_ok(h:∀a,ok a->ok' (g a)){x:An Z}(hx:Hd ok x):Hd ok' (US g x):=
 ⟨fun q=>by have:=hx.nl q;simp[US,this],by simpa[US] using hx.len,fun t ht=>by
  simp only[US,mem_map] at ht;obtain⟨s,hs,rfl⟩:=ht;have k:=hx.ts s hs
  exact⟨k.c,fun q=>by have:=k.nl q;simp[XO,this],by simpa[XO] using k.len,fun f hf=>by
   simp only[XO,mem_map] at hf;obtain⟨z,hz,rfl⟩:=hf
   exact zp h (k.fs z hz)⟩⟩
theorem up_sm(h:∀a,ok a->ok' (g a)){x:An Z}(hx:lf ok x):lf ok' (US g x):=
 ⟨by simpa[US] using hx.len,fun t ht=>by
  simp only[US,mem_map] at ht;obtain⟨s,hs,rfl⟩:=ht;have k:=hx.ts s hs
  exact⟨by simpa[XO] using k.len,fun f hf=>by
   simp only[XO,mem_map] at hf;obtain⟨z,hz,rfl⟩:=hf;have q:=k.fs z hz
   exact⟨by simpa[Ns] using q.OG,fun a ha=>by
    simp only[Ns,mem_map] at ha;obtain⟨b,hb,rfl⟩:=ha;exact h b (q.args b hb),by simpa[Ns] using q.NH,fun p hp=>by
    simp only[Ns,mem_map] at hp;obtain⟨b,hb,rfl⟩:=hp
    exact⟨(q.items b hb).1,h b.2 (q.items b hb).2⟩,q.bound⟩⟩⟩
end
def aB:(n:Nat)->Eu n->Eu (n+1)
 |0,x=>nomatch x
 |n+1,x=>US (aB n) x
theorem jP:∀n (x:Eu n),As (n+1) (aB n x)=As n x
 |0,x=>nomatch x
 |n+1,x=>up_an (jP n) x
theorem Yq:∀n (x:Eu n),Bf n x->Bf (n+1) (aB n x)
 |0,x,_=>nomatch x
 |n+1,_,h=>up_ok (Yq n) h
theorem ZE:∀n (x:Eu n),Lu n x->Lu (n+1) (aB n x)
 |0,x,_=>nomatch x
 |n+1,_,h=>up_sm (ZE n) h
theorem up_to(p:SA)(ho:Qc p)(hs:ml p):∀k,∃a:Eu (p.1+k),As (p.1+k) a=eS p/\Bf (p.1+k) a/\Lu (p.1+k) a
 |0=>⟨p.2,rfl,ho,hs⟩
 |k+1=>by obtain⟨a,h1,h2,h3⟩:=up_to p ho hs k;exact⟨aB _ a,(jP _ a).trans h1,Yq _ a h2,ZE _ a h3⟩
theorem up_N(p:SA)(h:Qc p/\ml p)(N:Nat)(hN:p.1<=N):∃a:Eu N,As N a=eS p/\Bf N a/\Lu N a:=by obtain⟨k,rfl⟩:=Nat.exists_eq_add_of_le hN;exact up_to p h.1 h.2 k
theorem up_two(p q:SA)(hp:Qc p/\ml p)(hq:Qc q/\ml q):∃(n:Nat) (a b:Eu (n+1)),As (n+1) a=eS p/\As (n+1) b=eS q/\(Bf (n+1) a/\Lu (n+1) a)/\(Bf (n+1) b/\Lu (n+1) b):=by obtain⟨a,h1,h2⟩:=up_N p hp (p.1+q.1+1) (by omega);obtain⟨b,k1,k2⟩:=up_N q hq (p.1+q.1+1) (by omega);exact⟨p.1+q.1,a,b,h1,k1,h2,k2⟩
end Go.Proofs.YtjniafcnjbbomaaGreatDoor.DE.V
namespace Go.Proofs.YtjniafcnjbbomaaGreatDoor.DE
open Go
instance drwE:Ga:=Ga.any
abbrev QD:=List (Nat×List D×D)
def jL:QD->Nat->Nat->List D->Option (Nat×D)
 |[],_,_,_=>none
 |(g',a,r)::l,i,g,args=>if g'==g&&Lm a args then some (i,r) else jL l (i+1) g args
def KOk(dp:Nat->Option Fn)(σ:Nat->A1):QD->Nat->Prop
 |[],_=>True
 |(g,a,r)::l,i=>call dp g a []=some (r,σ i)/\KOk dp σ l (i+1)
theorem aN{dp:Nat->Option Fn}{σ:Nat->A1}:∀{l:QD} {i:Nat},KOk dp σ l i->∀{g:Nat} {args:List D} {j:Nat} {r:D},jL l i g args=some (j,r)->call dp g args []=some (r,σ j)
 |[],_,_,_,_,_,_,h=>by cases h
 |(g',a,r')::l,i,hk,g,args,j,r,h=>by
  simp only[jL] at h;split at h
  .rename_i hc;simp only[and_eq_true,beq_iff_eq] at hc;injection h with h
   injection h with h1 h2
   subst h1 h2;rw[<-hc.1,<-Jy hc.2];exact hk.1
  .exact aN hk.2 h
def hZ(dp:Nat->Option Fn)(kn:QD)(σ:Nat->A1):Nat->AQ
 |0,_,_,_=>none
 |n+1,g,args,S=>match(if S.isEmpty then jL kn 0 g args else none) with
  |some (i,r)=>some (r,σ i)
  |none=>match dp g with
   |some f=>if args.length=f.np/\f.np<=f.nt then finish f (exec (hZ dp kn σ n) n f.body (Bm f args) S) else Bb (Bu (Ky dp) n) f args S
   |none=>none
theorem JR{cf:AQ}(n:Nat):∀(c:C) (fr:List D) (S:A1),H3 (exec cf n c fr S) (BK cf c fr S)
 |.skip,_,_=>H3.refl _
 |.CN ops kill,fr,S=>H3.refl _
 |.BB ops kill,fr,S=>H3.refl _
 |.bad,_,_=>H3.refl _
 |.seq a b,fr,S=>by
  intro x e;simp only[exec,BK] at *;cases ha:exec cf n a fr S with
  |none=>simp[ha] at e
  |some p=>
   rw[JR n a fr S p ha];rw[ha] at e;obtain⟨ex,Au,S'⟩:=p;cases ex with
   |normal=>exact JR n b _ _ _ e
   |exit _=>exact e
   |ret=>exact e
 |.cond q a b,fr,S=>by
  intro x e;simp only[exec,BK] at *;cases hq:av fr q with
  |b y=>
   rw[hq] at e;cases y with
   |true=>exact JR n a _ _ _ e
   |false=>exact JR n b _ _ _ e
  |_=>simp[hq] at e
 |.blk id a,fr,S=>by
  intro x e;simp only[exec,BK] at *;cases ha:exec cf n a fr S with
  |none=>simp[ha] at e
  |some p=>rw[JR n a fr S p ha];rw[ha] at e;exact e
 |.loop kl a,fr,S=>by intro x e;simp only[exec,BK] at *;exact(Ge (fun n m hm=>CZ (fun _ _=>H3.refl _) n m hm fr S) x).2 ⟨n,CZ (fun fr S=>JR n a (B7 fr kl) S) n n (le_refl _) _ _ _ e⟩
 |.exit _,_,_=>H3.refl _
 |.ret,_,_=>H3.refl _
theorem Sq{dp:Nat->Option Fn}{kn:QD}{σ:Nat->A1}(hk:KOk dp σ kn 0):∀n,eK (hZ dp kn σ n) (call dp)
 |0=>fun _ _ _ _ e=>by cases e
 |n+1=>by
  intro g a S r e;simp only[hZ] at e;split at e
  .rename_i i r0 hl;injection e with e
   subst e;split at hl
   .rename_i hS;have:S=[]:=by simpa using hS
    subst this;exact aN hk hl
   .cases hl
  .rw[LO];cases hg:dp g with
   |none=>simp[hg] at e
   |some f=>
    simp only[hg] at e ⊢;split at e<;>rename_i hn
    .rw[if_pos hn];refine K7 f ?_ _ e;intro x hx;have h1:=EL (Sq hk n) (le_refl n) f.body (Bm f a) S x hx;exact JR n f.body _ _ x h1
    .rw[if_neg hn];exact L1 (Jc n) f a S r e
def ans(o:Option (D×A1)):Option D:=match o with
 |some (r,_)=>some r
 |none=>none
theorem known{dp:Nat->Option Fn}{kn:QD}{g:Nat}{args:List D}{r:D}(n:Nat)(hk:∃σ,KOk dp σ kn 0)(h:∀σ,ans (hZ dp kn σ n g args [])=some r):∃S,call dp g args []=some (r,S):=by
 obtain⟨σ,hk⟩:=hk;have:=h σ;unfold ans at this;split at this
 .rename_i r0 S0 e;injection this with this
  subst this;exact⟨S0,Sq hk n _ _ _ _ e⟩
 .cases this
theorem AH{dp:Nat->Option Fn}:∃σ,KOk dp σ [] 0:=⟨fun _=>[],trivial⟩
theorem VO{dp:Nat->Option Fn}{σ:Nat->A1}:∀{l:QD} {i:Nat} (S:A1),KOk dp σ l i->KOk dp (fun n=>match n with|0=>S|n+1=>σ n) l (i+1)
 |[],_,_,_=>trivial
 |(_,_,_)::l,i,S,h=>⟨h.1,VO (l:=l) (i:=i+1) S h.2⟩
theorem A7{dp:Nat->Option Fn}{kn:QD}{g:Nat}{args:List D}{r:D}(h:∃S,call dp g args []=some (r,S))(hk:∃σ,KOk dp σ kn 0):∃σ,KOk dp σ ((g,args,r)::kn) 0:=by obtain⟨S,h⟩:=h;obtain⟨σ,hk⟩:=hk;exact⟨fun n=>match n with|0=>S|n+1=>σ n,h,VO S hk⟩
end Go.Proofs.YtjniafcnjbbomaaGreatDoor.DE
