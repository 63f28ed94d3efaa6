/- Joined texts. -/
import Derived.Test.YtjniafcnjbbomaaGreatDoorQx12
import Derived.Test.YtjniafcnjbbomaaGreatDoorQx18
set_option linter.all false
open List (getElem?_cons_succ getElem?_cons_zero)
open Option (map_some)
open Nat (le_trans)
namespace Go.Proofs.YtjniafcnjbbomaaGreatDoor.DE.V
open Go NL
structure OkH(c:Ch):Prop where
 l1:CA c.num
 l2:CA c.den
 f1:NF c.2.1.1 c.num
 f2:NF c.2.2.1 c.den
theorem OkL_of{l:List Ch}(h:∀c,c∈l->OkH c)(hf:T6 l):X2 l/\Bd l.length:=by
 refine⟨fun c hc=>⟨(h c hc).l1,(h c hc).l2,(h c hc).f1,(h c hc).f2,?_,?_⟩,?_⟩
 .have:=(hf.1 c hc).1;unfold Bd;omega
 .have:=(hf.1 c hc).2;unfold Bd;omega
 .have:=hf.2;unfold Bd;omega
open Go NL BT
theorem ExD.split{l:List Ch}{x:SA}{r:D}(h:ExD l x r):∃d e,r=.AY [d,.i .i64 e]/\Kx d/\(e=0->∃q,Rq q d/\EX l x q):=by
 rcases h with⟨dq,e,rfl,he,hq⟩|⟨q,dq,rfl,hq,hx⟩
 .exact⟨_,_,rfl,hq,fun h=>absurd h he⟩
 .exact⟨_,_,rfl,hq.N0,fun _=>⟨q,hq,hx⟩⟩
structure Zk(L:List Row)(z:SA):Prop where
 ok:Qc z
 w:wS z<=50000
 va:∀r,r∈Zr z->r∈L
theorem Zk.ex{L:List Row}{z:SA}(h:Zk L z)(hL:L.length<=8){nc:Bool}{l:List Ch}(Bg:X2 l)(hb:Bd l.length)(hf:T6 l) :
  ∃r,A0 (call dp) 21 [eS z,.i .i64 4096,Ep nc l]=some r/\ExD l z r:=
 v21 z h.ok h.w ⟨L,h.va,hL⟩ nc l Bg hb fun c hc=>by have:=hf.1 c hc;omega
def nP(n:Nat):SA:=⟨n+1,⟨true,[]⟩⟩
theorem P9(n:Nat)(L:List Row):Zk L (nP n):=by
 refine⟨⟨fun _=>rfl,Nat.zero_le 9223372036854775807,fun t ht=>by cases ht⟩,?_,fun r hr=>?_⟩
 .show Sy (CD n) ⟨true,[]⟩<=50000;simp[Sy]
 .have hr:r∈Kv (CV n) ⟨true,[]⟩:=hr;simp[Kv] at hr
theorem abs_zk{n:Nat}{a:Eu (n+1)}(ka:Bf (n+1) a)(wa:CD (n+1) a<=30){L:List Row}(hL:∀r,r∈CV (n+1) a->r∈L) :
  ∃z f,A0 (call dp) 26 [As (n+1) a]=some (.AY [eS z,.i .i64 f])/\Zk L z/\(f=0->∀σ,ag σ z=!ag σ ⟨n+1,a⟩):=by
 obtain⟨r,e,h⟩:=v26 n a ka wa;rcases h with rfl|rfl|⟨h0,rfl⟩|⟨⟨t,ht,hf⟩,rfl⟩|rfl
 .exact⟨nP n,1,e,P9 n L,fun h=>absurd h (by decide)⟩
 .exact⟨nP n,6,e,P9 n L,fun h=>absurd h (by decide)⟩
 .refine⟨⟨n+1,Pa⟩,0,e,⟨?_,?_,fun r hr=>?_⟩,fun _ σ=>?_⟩
  .refine⟨fun q=>by simp[Pa] at q,by simp[Pa,Bi],fun t ht=>?_⟩;simp only[Pa,List.mem_singleton] at ht;subst ht;exact⟨⟨by simp,by simp⟩,fun _=>rfl,by simp[Bi],fun f hf=>by cases hf⟩
  .show Sy (CD n) Pa<=50000;simp[Sy,Pa,Hn]
  .have hr:r∈Kv (CV n) Pa:=hr;simp[Kv,Pa,JC] at hr
  .have h1:KD (G8 σ n) σ a=false:=by simp[KD,h0]
   show KD (G8 σ n) σ Pa=!KD (G8 σ n) σ a;rw[h1];simp[KD,Pa,Np]
 .refine⟨nP n,0,e,P9 n L,fun _ σ=>?_⟩
  have h1:KD (G8 σ n) σ a=true:=by simp only[KD,List.any_eq_true];exact⟨t,ht,by simp[Np,hf]⟩
  show false=!KD (G8 σ n) σ a;rw[h1];rfl
 .refine⟨⟨n+2,Gd (n+2) (ET (Co a))⟩,0,e,⟨re (n+2) _ ?_,?_,fun r hr=>?_⟩,fun _ σ=>ev_abs σ a⟩
  .exact okX a ka
  .refine le_trans (Nat.le_of_eq (cp_w (n+2) (ET (Co a)))) ?_;show Sy (CD (n+1)) (ET (Co a))<=50000;simp[Sy,ET,Hn,Kw,Co];omega
  .have hr:r∈Kv (CV (n+1)) (ET (Co a)):=Eq.mp (congrArg (fun l=>r∈l) (sk (n+2) (ET (Co a)))) hr;simp[Kv,ET,JC,Ej,Co] at hr;exact hL r hr
theorem mul_zk{n:Nat}{a b:Eu (n+1)}(ka:Bf (n+1) a)(kb:Bf (n+1) b)(wa:CD (n+1) a<=30)(wb:CD (n+1) b<=30){L:List Row}(hLa:∀r,r∈CV (n+1) a->r∈L)(hLb:∀r,r∈CV (n+1) b->r∈L) :
  ∃z f,A0 (call dp) 20 [As (n+1) a,As (n+1) b]=some (.AY [eS z,.i .i64 f])/\Zk L z/\(f=0->∀σ,ag σ z=true->ag σ ⟨n+1,b⟩=true):=by
 obtain⟨r,e,h⟩:=v20 a b ka kb wa wb;rcases h with rfl|rfl|⟨R,rfl,kR,wR,hR⟩
 .exact⟨nP n,1,e,P9 n L,fun h=>absurd h (by decide)⟩
 .exact⟨nP n,6,e,P9 n L,fun h=>absurd h (by decide)⟩
 .refine⟨⟨n+1,Gd (n+1) R⟩,0,e,⟨re (n+1) _ kR,?_,fun r hr=>?_⟩,fun _ σ h=>ev_mul σ hR h⟩
  .exact le_trans (Nat.le_of_eq (cp_w (n+1) R)) (le_trans wR (by omega))
  .have hr:r∈R.ts.flatMap (JC (CV n)):=Eq.mp (congrArg (fun l=>r∈l) (sk (n+1) R)) hr;obtain⟨t,ht,hrt⟩:=List.mem_flatMap.1 hr;obtain⟨p,⟨x,hx,y,hy,h1,_⟩,h2⟩:=hR t ht;have hrt:r∈t.fs.flatMap (Ej (CV n)):=hrt;obtain⟨f,hf,hrf⟩:=List.mem_flatMap.1 hrt;rw[h2,h1] at hf
   have sub:∀(c:Eu (n+1)),(∀r,r∈CV (n+1) c->r∈L)->∀s,s∈c.ts->∀f,f∈s.fs->∀r,r∈Ej (CV n) f->r∈L:=fun c hc s hs f hf r hr=>by refine hc r ?_;show r∈c.ts.flatMap (JC (CV n));exact List.mem_flatMap.2 ⟨s,hs,List.mem_flatMap.2 ⟨f,hf,hr⟩⟩
   exact Pk (P:=fun f=>∀r,r∈Ej (CV n) f->r∈L) (fun f z h=>h) _ _ (sub a hLa x hx) (sub b hLb y hy) f hf r hrf
theorem neqz(e:Int):A4 .neq .num (.i .i64 e) (.i .i64 0)=some (.b (!decide (e=0))):=JA ..
theorem eqlz(e:Int):A4 .eql .num (.i .i64 e) (.i .i64 0)=some (.b (decide (e=0))):=PG ..
theorem Hm.O7{S S':A1}{id:Nat}{d:D}(h:Hm S id d)(k:∀j,j<S.length->AA S' j=AA S j):Hm S' id d:=by obtain⟨x,y,rfl,h⟩:=h;exact⟨x,y,rfl,by rw[k id (AJ h)];exact h⟩
theorem wA{q:Fq}{d d':D}(h:Rq q d)(h':Rq q d')(hv:VQ q):A0 (call dp) 16 [d,d']=some (.b true):=by obtain⟨n1,n2,rfl,_,_⟩:=h;obtain⟨m1,m2,rfl,_,_⟩:=h';rw[v16 n1 n2 m1 m2 _ _ _ _ (M0 hv.f1) (M0 hv.f2)];simp
theorem prob_q{q:Fq}{d:D}(h:Rq q d)(hv:VQ q)(hle:q.1<=q.2):A0 (call dp) 30 [d]=some (.b true):=by obtain⟨n1,n2,rfl,f1,f2⟩:=h;rw[v30 n1 n2 _ _ (CS _) (CS _) f1 f2 (M0 hv.f1) (M0 hv.f2)];simp[pU hv,CB,hle]
theorem one_q:∃d,A0 (call dp) 28 []=some d/\Rq (1,1) d:=⟨_,v28,false,false,rfl,fun h=>(by cases h),fun h=>(by cases h)⟩
theorem tD{K:D->D->D->D->D->D->D->A1->Prop}{G:(D->D->D->D->D->D->D->A1->Prop)->Prop}(x y z:D)(hK:∀t1 t2 t3 t4 S,K x y z t1 t2 t3 t4 S)(hG:∀K':D->D->D->D->D->D->D->A1->Prop,(∀t1 t2 t3 t4 S,K' x y z t1 t2 t3 t4 S)->G K'):jn K G:=hG K hK
theorem M9{Z:Type}[DecidableEq Z]:∀l:List Z,∃U:List Z,U.Nodup/\∀r,r∈l->r∈U
 |[]=>⟨[],List.nodup_nil,fun _ h=>h⟩
 |x::l=>by
  obtain⟨U,h1,h2⟩:=M9 l;by_cases hx:x∈U
  .refine⟨U,h1,fun r hr=>?_⟩;rcases List.mem_cons.1 hr with rfl|hr
   .exact hx
   .exact h2 r hr
  .refine⟨x::U,List.nodup_cons.2 ⟨hx,h1⟩,fun r hr=>?_⟩;rcases List.mem_cons.1 hr with rfl|hr
   .exact List.mem_cons_self
   .exact List.mem_cons_of_mem _ (h2 r hr)
theorem lZ(e f g:Int)(K:D->Prop):(OX (A8 (.b (decide (e=0))) true (some (.i .i64 f))) fun x34=>OX (A8 (.b (decide (e=0))) true (A4 .eql .num x34 (.i .i64 0))) fun x35=>OX (AU (.b (decide (e=0))) x35 (.b false)) fun x36=>
  OX (A8 x36 true (some (.i .i64 g))) fun x37=>OX (A8 x36 true (A4 .eql .num x37 (.i .i64 0))) fun x38=>OX (AU x36 x38 (.b false)) K)=K (.b (decide (e=0/\f=0/\g=0))):=by
 by_cases h1:e=0
 .by_cases h2:f=0
  .by_cases h3:g=0
   .simp[h1,h2,h3]
   .simp[h1,h2,h3]
  .simp[h1,h2]
 .simp[h1]
theorem wq(e f g h:Int)(K:D->Prop):(OX (A8 (.b (!decide (e=0))) false (some (.i .i64 f))) fun x74=>OX (A8 (.b (!decide (e=0))) false (A4 .neq .num x74 (.i .i64 0))) fun x75=>OX (AU (.b (!decide (e=0))) (.b true) x75) fun x76=>
  OX (A8 x76 false (some (.i .i64 g))) fun x77=>OX (A8 x76 false (A4 .neq .num x77 (.i .i64 0))) fun x78=>OX (AU x76 (.b true) x78) fun x79=>
  OX (A8 x79 false (some (.i .i64 h))) fun x80=>OX (A8 x79 false (A4 .neq .num x80 (.i .i64 0))) fun x81=>OX (AU x79 (.b true) x81) K)=K (.b (!decide (e=0/\f=0/\g=0/\h=0))):=by
 by_cases h1:e=0
 .by_cases h2:f=0
  .by_cases h3:g=0
   .by_cases h4:h=0
    .simp[h1,h2,h3,h4]
    .simp[h1,h2,h3,h4]
   .simp[h1,h2,h3]
  .simp[h1,h2]
 .simp[h1]
theorem sum_1{l:List Ch}{x y:SA}{q q':Fq}{d d':D}(Bg:X2 l)(hf:T6 l)(hx:Qc x)(hy:Qc y)(h:EX l x q)(h':EX l y q')(hd:Rq q d)(PI:Rq q' d')(U9:∀σ,ag σ y=!ag σ x) :
  ∃dq,A0 (call dp) 27 [d,d']=some (.AY [dq,.i .i64 0])/\Rq (1,1) dq:=by
 obtain⟨v1,a1,a2⟩:=Kl Bg hf h;obtain⟨v2,b1,b2⟩:=Kl Bg hf h';obtain⟨U,hU,hc⟩:=M9 (Zr x++Zr y);have hs:=sJ Bg hx hy h h' U hU (fun r hr=>hc r (List.mem_append_left _ hr)) (fun r hr=>hc r (List.mem_append_right _ hr)) U9;obtain⟨r,e,hr⟩:=v27 q q' d d' hd PI v1 v2;rw[sI v1 v2 a1 a2 b1 b2 hs] at hr;obtain⟨dq,rfl,hq⟩:=hr;exact⟨dq,e,hq⟩
theorem quo_mul{l:List Ch}{x y:SA}{q q':Fq}{dp0 d':D}(Bg:X2 l)(hf:T6 l)(hx:Qc x)(hy:Qc y)(h:EX l x q)(h':EX l y q')(h0:0<q'.1)(hd:Rq (Kf q q') dp0)(PI:Rq q' d')(U9:∀σ,ag σ x=true->ag σ y=true) :
  (∃dq,A0 (call dp) 29 [dp0,d']=some (.AY [dq,.i .i64 0])/\Rq q dq)/\VQ q/\VQ (Kf q q')/\(Kf q q').1<=(Kf q q').2:=by
 obtain⟨v1,a1,a2⟩:=Kl Bg hf h;obtain⟨v2,b1,b2⟩:=Kl Bg hf h';obtain⟨_,_,_,_,_,_,hv⟩:=ex_dR Bg h;obtain⟨U,hU,hc⟩:=M9 (Zr x++Zr y);have hs:=ex_le Bg hv hx hy h h' U hU (fun r hr=>hc r (List.mem_append_left _ hr)) (fun r hr=>hc r (List.mem_append_right _ hr)) U9;obtain⟨g1,g2,g3⟩:=quo_ok v1 v2 a1 a2 b1 b2 h0 hs;obtain⟨r,e,hr⟩:=v29 (Kf q q') q' dp0 d' hd PI g1 v2;rw[g3] at hr;obtain⟨dq,rfl,hq⟩:=hr;exact⟨⟨dq,e,hq⟩,v1,g1,g2⟩
set_option maxHeartbeats 1000000 in
theorem law6(h8:A0 (call dp) 8 []=some (.b true))(p q:SA)(hp:Qc p/\ml p)(hq:Qc q/\ml q)(nc:Bool)(l:List Ch)(hokh:∀c,c∈l->OkH c)(hb0:l.length<=maxLen):A0 (call dp) 6 [eS p,eS q,Ep nc l]=some (.b true):=by
 obtain⟨n,a,b,ea,eb,⟨ka,sa⟩,⟨kb,sb⟩⟩:=up_two p q hp hq;rw[<-ea,<-eb];have hA:As (n+1) a=eS ⟨n+1,a⟩:=rfl;have hB:As (n+1) b=eS ⟨n+1,b⟩:=rfl;have ga:=(Az (n+1)).strip a;have gb:=(Az (n+1)).strip b;have na:=(Az (n+1)).AG a;have nb:=(Az (n+1)).AG b;apply i6 _ _ _ _ (by simp[A9,ga,gb,na,nb]) rfl;have u7:=v7 nc l hb0
 have hl:∀z,z∈[(⟨n+1,a⟩:SA),⟨n+1,b⟩]->Qc z/\ml z:=fun z hz=>by
  simp only[List.mem_cons,List.not_mem_nil,or_false] at hz;rcases hz with rfl|rfl
  .exact⟨ka,sa⟩
  .exact⟨kb,sb⟩
 obtain⟨c19,u19,w19⟩:=v19 4 (by omega) [⟨n+1,a⟩,⟨n+1,b⟩] (by simp) hl;obtain⟨_,u25,c25,rfl,w25⟩:=v25 30 (by omega) [⟨n+1,a⟩,⟨n+1,b⟩] (by simp[Bd]) (fun z hz=>(hl z hz).1);have fp:AV 1 false [As (n+1) a,As (n+1) b]=some [[As (n+1) a],[As (n+1) b]]:=by simp[AV,Am,(Az (n+1)).cell]
 have u19:A0 (call dp) 19 [.i .i64 4,.sl 1 false [[As (n+1) a],[As (n+1) b]] .ro]=some (.b c19):=u19;have u25:A0 (call dp) 25 [.i .i64 30,.sl 1 false [[As (n+1) a],[As (n+1) b]] .ro]=some (.b c25):=u25;simp only[s6,ga,gb,JH,u7,A5,Cu];by_cases hf:T6 l;rotate_left
 .simp only[hf,decide_false,Bool.not_false,JD,A5,Jf,Al,h8];rfl
 cases c19 with
 |false=>
  simp only[hf,decide_true,Bool.not_true,Bool.not_false,EE,JD,A5,fp,map_some,u19,Cu,GI,Jf,Al,h8];rfl
 |true=>
 cases c25 with
 |false=>
  simp only[hf,decide_true,Bool.not_true,Bool.not_false,EE,JD,A5,fp,map_some,u19,u25,Cu,GI,Jf,Al,h8];rfl
 |true=>
 obtain⟨Bg,hb⟩:=OkL_of hokh hf;have wa:CD (n+1) a<=30:=w25 rfl ⟨n+1,a⟩ (by simp) sa;have wb:CD (n+1) b<=30:=w25 rfl ⟨n+1,b⟩ (by simp) sb;obtain⟨_,La,la1,la2⟩:=w19 rfl ⟨n+1,a⟩ (by simp);obtain⟨_,Lb,lb1,lb2⟩:=w19 rfl ⟨n+1,b⟩ (by simp);have hL8:(La++Lb).length<=8:=by simp;omega
 have ma:∀r,r∈CV (n+1) a->r∈La++Lb:=fun r hr=>List.mem_append_left _ ((la1 r).2 hr);have mb:∀r,r∈CV (n+1) b->r∈La++Lb:=fun r hr=>List.mem_append_right _ ((lb1 r).2 hr);have Za:Zk (La++Lb) ⟨n+1,a⟩:=⟨ka,le_trans wa (by omega),ma⟩
 have Zb:Zk (La++Lb) ⟨n+1,b⟩:=⟨kb,le_trans wb (by omega),mb⟩
 obtain⟨za,fa,u26,Zz,hev1⟩:=abs_zk ka wa ma;obtain⟨zm,fm,u20,Zm,hev2⟩:=mul_zk ka kb wa wb ma mb;obtain⟨ra,ua,xa⟩:=Za.ex hL8 (nc:=nc) Bg hb hf;obtain⟨rb,ub,xb⟩:=Zb.ex hL8 (nc:=nc) Bg hb hf;obtain⟨rz,uz,xz⟩:=Zz.ex hL8 (nc:=nc) Bg hb hf;obtain⟨rm,um,xm⟩:=Zm.ex hL8 (nc:=nc) Bg hb hf;have ua:A0 (call dp) 21 [As (n+1) a,.i .i64 4096,Ep nc l]=some ra:=ua;have ub:A0 (call dp) 21 [As (n+1) b,.i .i64 4096,Ep nc l]=some rb:=ub;obtain⟨d1,e1,ra_eq,i1,t1⟩:=xa.split;obtain⟨d2,e2,rz_eq,i2,t2⟩:=xz.split;obtain⟨d3,e3,rb_eq,i3,t3⟩:=xb.split;obtain⟨d4,e4,rm_eq,i4,t4⟩:=xm.split;simp only[hf,decide_true,Bool.not_true,Bool.not_false,EE,JD,A5,fp,map_some,u19,u25,Cu,GI,Jf,Ac,ua,ra_eq,CX,getElem?_cons_zero,getElem?_cons_succ,HY,List.length_nil,eqlz];obtain⟨S22,e22,q22,l22,k22⟩:=X7 [] i1;simp only[List.length_nil] at e22 q22 l22;simp only[e22,A5,u26,CX,getElem?_cons_zero,getElem?_cons_succ,uz,rz_eq,HY];obtain⟨S32,e32,q32,l32,k32⟩:=X7 S22 i2;simp only[e32,A5];have q22':=q22.O7 k32;refine Eq.mpr (lZ e1 fa e2 _) ?_;refine tD (As (n+1) a) (As (n+1) b) (Ep nc l) ?_ ?_
 .intro t1 t2 t3' t4' S
  obtain⟨r23,u23,x23⟩:∃r,A0 (call dp) 23 [As (n+1) a,As (n+1) b,.i .i64 4096,Ep nc l]=some r/\(ErD r\/(fm=0/\GvD l zm ⟨n+1,b⟩ rm rb r)):=by
   by_cases h0:fm=0
   .subst h0;obtain⟨r,g1,g2⟩:=v23 _ _ nc l ga gb na nb Bg hf zm ⟨n+1,b⟩ (eS zm) rm rb u20 um xm ub xb;exact⟨r,g1,.inr ⟨rfl,g2⟩⟩
   .obtain⟨r,g1,g2⟩:=v23e _ _ nc l ga gb na nb (eS zm) fm h0 u20;exact⟨r,g1,.inl g2⟩
  obtain⟨d0,e0,xv,i0,g0⟩:∃d0 e0,r23=.AY [d0,.i .i64 e0]/\Kx d0/\(e0=0->fm=0/\GvD l zm ⟨n+1,b⟩ rm rb r23):=by
   have er:∀r,ErD r->∃d0 e0,r=.AY [d0,.i .i64 e0]/\Kx d0/\e0≠0:=by rintro r ⟨dq,e,rfl,he,hq⟩;exact⟨dq,e,rfl,hq,he⟩
   rcases x23 with h|⟨h0,h|h⟩
   .obtain⟨d0,e0,g1,g2,g3⟩:=er _ h;exact⟨d0,e0,g1,g2,fun h=>absurd h g3⟩
   .obtain⟨d0,e0,g1,g2,g3⟩:=er _ h;exact⟨d0,e0,g1,g2,fun h=>absurd h g3⟩
   .have h':=h;obtain⟨_,_,_,_,dq,_,_,_,_,_,_,_,rfl,hq⟩:=h;exact⟨dq,0,rfl,hq.N0,fun _=>⟨h0,.inr h'⟩⟩
  obtain⟨S55,e55,q55,l55,k55⟩:=X7 S i0;obtain⟨S62,te,q62,l62,k62⟩:=X7 S55 i3;obtain⟨S72,e72,q72,l72,k72⟩:=X7 S62 i4;have q55':=(q55.O7 k62).O7 k72;have q62':=q62.O7 k72;simp only[u23,xv,A5,CX,getElem?_cons_zero,getElem?_cons_succ,HY,e55,ub,rb_eq,te,u20,um,rm_eq,e72,neqz];refine Eq.mpr (wq e0 e3 fm e4 _) ?_;by_cases cc:e0=0/\e3=0/\fm=0/\e4=0;rotate_left
  .simp only[cc,decide_false,Bool.not_false,Al,h8,A5];rfl
  have c1:=cc.1;have c3:=cc.2.2.1;obtain⟨_,gv⟩:=g0 c1;rw[xv,rm_eq,rb_eq] at gv;rcases gv with⟨dq,e,he,CF,_⟩|⟨q1,q2,D1,D2,dq,g1,g2,g3,g4,g5,g6,g7,g8,g9⟩
  .simp only[D.AY.injEq,List.cons.injEq,D.i.injEq,true_and,and_true] at he;exact absurd (he.2▸c1) CF
  .simp only[D.AY.injEq,List.cons.injEq,D.i.injEq,true_and,and_true] at g1 g4 g8;obtain⟨rfl,_⟩:=g1;obtain⟨rfl,_⟩:=g4;obtain⟨rfl,_⟩:=g8;obtain⟨⟨dz,u29,hz⟩,Lh,hvp,hlp⟩:=quo_mul Bg hf Zm.ok Zb.ok g3 g6 g7 g9 g5 (hev2 c3);obtain⟨S92,e92,q92,l92,k92⟩:=X7 S72 hz.N0;have u16:=wA hz g2 Lh;have u30:=prob_q g9 hvp hlp;simp only[cc,and_self,decide_true,Bool.not_true,EE,Wr,A5,neqz,eqlz,Jf,GI,Ac,q55'.ld,q62'.ld,u29,CX,getElem?_cons_zero,getElem?_cons_succ,HY,e92,q92.ld,(q72.O7 k92).ld,u16,(q55'.O7 k92).ld,u30,h8];rfl
 .intro K hK;by_cases cc:e1=0/\fa=0/\e2=0;rotate_left
  .simp only[cc,decide_false,Ac];exact hK _ _ _ _ _
  have c1:=cc.1;have c2:=cc.2.1;have c3:=cc.2.2;obtain⟨q1,xT,x1⟩:=t1 c1;obtain⟨q2,Qv,x2⟩:=t2 c3;obtain⟨dq,u27,hq⟩:=sum_1 Bg hf Za.ok Zz.ok x1 x2 xT Qv (hev1 c2);obtain⟨do1,u28,ho⟩:=one_q;obtain⟨S111,e111,q111,l111,k111⟩:=X7 S32 hq.N0;have u16:=wA hq ho Pf;simp only[cc,and_self,decide_true,Wr,A5,eqlz,Jf,Al,q22'.ld,q32.ld,u27,CX,getElem?_cons_zero,getElem?_cons_succ,HY,e111,neqz,Bool.not_true,EE,q111.ld,u28,u16,Cu,GI,Ac];exact hK _ _ _ _ _
end Go.Proofs.YtjniafcnjbbomaaGreatDoor.DE.V
