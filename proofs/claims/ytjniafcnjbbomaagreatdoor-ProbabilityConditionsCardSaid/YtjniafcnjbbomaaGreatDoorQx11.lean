/- Joined texts. -/
import Derived.Test.YtjniafcnjbbomaaGreatDoorQx3
import Derived.Test.YtjniafcnjbbomaaGreatDoorQx9
import Derived.Test.YtjniafcnjbbomaaGreatDoorQx10
import Derived.KernelRfl
set_option linter.all false
open List (append_assoc cons_append drop_zero flatten_cons getElem?_map getElem_map length_append length_cons length_map length_nil map_append map_cons map_map map_nil mem_cons sum_cons take_of_length_le)
open Bool (and_eq_true not_eq_true not_eq_true' or_eq_true)
open Nat (add_zero le_refl le_trans succ_mul zero_add zero_le zero_mul)
namespace Go.Proofs.YtjniafcnjbbomaaGreatDoor.BT
noncomputable def mk(v:Nat)(l h:T):T:=if l=h then l else .node v l h
theorem mk_fn(v:Nat)(l h:T)(s:Nat->Bool):fn (mk v l h) s=if s v then fn h s else fn l s:=by
 unfold mk;split
 .rename_i e;subst e;simp
 .rfl
theorem mk_wf{n v:Nat}{l h:T}(hv:v<n)(hl:Wf n l)(hh:Wf n h)(tl:v<top n l)(th:v<top n h):Wf n (mk v l h)/\v<=top n (mk v l h):=by
 unfold mk;split
 .exact⟨hl,by omega⟩
 .rename_i e;exact⟨⟨hv,tl,th,e,hl,hh⟩,le_refl _⟩
def Dep(n v:Nat)(f:(Nat->Bool)->Bool):Prop:=∀s r,(∀i,v<=i->i<n->s i=r i)->f s=f r
theorem Dep.mono{n v w:Nat}{f:(Nat->Bool)->Bool}(h:Dep n v f)(k:w<=v):Dep n w f:=fun s r e=>h s r fun i h1 h2=>e i (by omega) h2
noncomputable def tr(n:Nat):Nat->((Nat->Bool)->Bool)->T
 |0,f=>.leaf (f fun _=>false)
 |k+1,f=>mk (n-(k+1)) (tr n k fun s=>f (gI s (n-(k+1)) false)) (tr n k fun s=>f (gI s (n-(k+1)) true))
theorem vw(n:Nat):∀(k:Nat) (f:(Nat->Bool)->Bool),k<=n->Wf n (tr n k f)/\n-k<=top n (tr n k f)
 |0,f,_=>⟨trivial,by simp[tr,top]⟩
 |k+1,f,h=>by have a:=vw n k (fun s=>f (gI s (n-(k+1)) false)) (by omega);have b:=vw n k (fun s=>f (gI s (n-(k+1)) true)) (by omega);exact mk_wf (by omega) a.1 b.1 (by omega) (by omega)
theorem aQ(s:Nat->Bool)(v:Nat):gI s v (s v)=s:=by
 funext i;simp only[gI];split
 .rename_i h;rw[h]
 .rfl
theorem uN(n:Nat):∀(k:Nat) (f:(Nat->Bool)->Bool),k<=n->Dep n (n-k) f->∀s,fn (tr n k f) s=f s
 |0,f,_,hd,s=>hd _ _ (by intro i h1 h2;omega)
 |k+1,f,h,hd,s=>by
  have PI:∀b,Dep n (n-k) (fun s=>f (gI s (n-(k+1)) b)):=by
   intro b s r e;refine hd _ _ fun i h1 h2=>?_;simp only[gI];split
   .rfl
   .exact e i (by omega) h2
  simp only[tr,mk_fn];rw[uN n k _ (by omega) (PI false),uN n k _ (by omega) (PI true)];split
  .rename_i e;rw[<-e,aQ]
  .rename_i e;have:s (n-(k+1))=false:=by simpa using e
   rw[<-this,aQ]
noncomputable def br(n:Nat)(f:(Nat->Bool)->Bool):T:=tr n n f
theorem Un(n:Nat)(f:(Nat->Bool)->Bool):Wf n (br n f):=(vw n n f (le_refl _)).1
theorem VS{n:Nat}{f:(Nat->Bool)->Bool}(h:Dep n 0 f)(s:Nat->Bool):fn (br n f) s=f s:=uN n n f (le_refl _) (h.mono (by omega)) s
theorem canon'{n:Nat}{t s:T}(ht:Wf n t)(hs:Wf n s)(h:∀a,fn t a=fn s a):t=s:=canon _ t s (le_refl _) ht hs h
def Ck:T->T
 |.leaf b=>.leaf (!b)
 |.node v l h=>.node v (Ck l) (Ck h)
theorem Mo:∀t,Ck (Ck t)=t
 |.leaf b=>by simp[Ck]
 |.node v l h=>by simp[Ck,Mo l,Mo h]
theorem Ta{t s:T}(h:Ck t=Ck s):t=s:=by rw[<-Mo t,h,Mo]
theorem kQ(n:Nat):∀t,top n (Ck t)=top n t
 |.leaf _=>rfl
 |.node _ _ _=>rfl
theorem Ph{n:Nat}:∀{t:T},Wf n t->Wf n (Ck t)
 |.leaf _,_=>trivial
 |.node v l h,w=>⟨w.1,by rw[kQ];exact w.2.1,by rw[kQ];exact w.2.2.1,fun e=>w.2.2.2.1 (Ta e),Ph w.2.2.2.2.1,Ph w.2.2.2.2.2⟩
theorem Y6:∀(t:T) (s:Nat->Bool),fn (Ck t) s=!fn t s
 |.leaf _,_=>rfl
 |.node v l h,s=>by simp only[Ck,fn,Y6 l,Y6 h];split<;>rfl
theorem zo{t:T}{M:List T}:Ck t∈M.map Ck<->t∈M:=
 ⟨fun h=>by obtain⟨s,hs,e⟩:=List.mem_map.1 h;rwa [<-Ta e],fun h=>List.mem_map.2 ⟨t,h,rfl⟩⟩
theorem jV(t:T):∀M:List T,pos (M.map Ck) (Ck t)=pos M t
 |[]=>rfl
 |x::M=>by
  simp only[map_cons,pos,jV t M];by_cases h:x=t
  .simp[h]
  .have:Ck x≠Ck t:=fun e=>h (Ta e);simp[h,this]
def swp(r:Int):Int:=if r<2 then 1-r else r
theorem aS(M:List T):∀t:T,code (M.map Ck) (Ck t)=swp (code M t)
 |.leaf b=>by cases b<;>simp[Ck,code,swp]
 |.node v l h=>by have:=Eo M v l h;rw[swp,if_neg (by omega)];have:=jV (.node v l h) M;simp only[Ck] at this;simp only[Ck,code,this]
theorem SL:∀(t:T) (M:List T),post (Ck t) (M.map Ck)=(post t M).map Ck
 |.leaf _,_=>rfl
 |.node v l h,M=>by
  have hm:=zo (t:=.node v l h) (M:=M);simp only[Ck] at hm;simp only[Ck,post,hm];split
  .rfl
  .rw[SL l M,SL h (post l M)];simp[Ck]
theorem nds_not{L:List T}(hL:∀t,t∈L->kids L t):CH (L.map Ck)=(CH L).map fun x=>(x.1,swp x.2.1,swp x.2.2):=by
 simp only[CH,map_map];apply List.map_congr_left;intro t ht;have:=hL t ht;revert this;cases t with
 |leaf _=>exact fun h=>h.elim
 |node v l h=>intro _;simp[Ck,nd,aS]
def Rl(v:Nat):T->T
 |.leaf b=>.leaf b
 |.node w l h=>if w=v then l else .node w l h
def Ri(v:Nat):T->T
 |.leaf b=>.leaf b
 |.node w l h=>if w=v then h else .node w l h
theorem ZL{n v:Nat}:∀{t:T},Wf n t->v<=top n t->∀s,fn t s=if s v then fn (Ri v t) s else fn (Rl v t) s
 |.leaf b,_,_,s=>by simp[Rl,Ri]
 |.node w l h,_,_,s=>by
  by_cases e:w=v
  .subst e;simp[Rl,Ri,fn]
  .simp[Rl,Ri,e]
theorem lo_wf{n v:Nat}:∀{t:T},Wf n t->v<=top n t->v<n->Wf n (Rl v t)/\v<top n (Rl v t)
 |.leaf b,w,_,hv=>⟨w,hv⟩
 |.node x l h,w,hx,hv=>by
  by_cases e:x=v
  .subst e;simp[Rl];exact⟨w.2.2.2.2.1,w.2.1⟩
  .simp[Rl,e];simp only[top] at hx ⊢;exact⟨w,by omega⟩
theorem hi_wf{n v:Nat}:∀{t:T},Wf n t->v<=top n t->v<n->Wf n (Ri v t)/\v<top n (Ri v t)
 |.leaf b,w,_,hv=>⟨w,hv⟩
 |.node x l h,w,hx,hv=>by
  by_cases e:x=v
  .subst e;simp[Ri];exact⟨w.2.2.2.2.2,w.2.2.1⟩
  .simp[Ri,e];simp only[top] at hx ⊢;exact⟨w,by omega⟩
theorem jv(v:Nat):∀t:T,(Rl v t).size<=t.size
 |.leaf _=>le_refl _
 |.node w l h=>by simp only[Rl];split<;>simp only[T.size]<;>omega
theorem kB(v:Nat):∀t:T,(Ri v t).size<=t.size
 |.leaf _=>le_refl _
 |.node w l h=>by simp only[Ri];split<;>simp only[T.size]<;>omega
theorem Tx{n v:Nat}:∀{t:T},top n t=v->v<n->(Rl v t).size<t.size
 |.leaf _,h,hv=>by simp only[top] at h;omega
 |.node w l h,e,_=>by simp only[top] at e;simp only[Rl,if_pos e,T.size];omega
theorem T4{n v:Nat}:∀{t:T},top n t=v->v<n->(Ri v t).size<t.size
 |.leaf _,h,hv=>by simp only[top] at h;omega
 |.node w l h,e,_=>by simp only[top] at e;simp only[Ri,if_pos e,T.size];omega
theorem wV{L:List T}(hL:Cl L)(v:Nat):∀{t:T},sub L t->sub L (Rl v t)
 |.leaf _,h=>h
 |.node w l h,k=>by
  simp only[Rl];split
  .exact(El hL _ k).1
  .exact k
theorem ud{L:List T}(hL:Cl L)(v:Nat):∀{t:T},sub L t->sub L (Ri v t)
 |.leaf _,h=>h
 |.node w l h,k=>by
  simp only[Ri];split
  .exact(El hL _ k).2
  .exact k
def opb(d x y:Bool):Bool:=if d then x||y else x&&y
def Qh(n:Nat)(d:Bool)(t s u:T):Prop:=Wf n u/\min (top n t) (top n s)<=top n u/\∀a,fn u a=opb d (fn t a) (fn s a)
theorem dJ{n:Nat}{d:Bool}{s:T}:Qh n d (.leaf d) s (.leaf d):=
 ⟨trivial,by simp only[top];exact Nat.min_le_left _ _,fun a=>by cases d<;>simp[fn,opb]⟩
theorem bo{n:Nat}{d:Bool}{t:T}:Qh n d t (.leaf d) (.leaf d):=
 ⟨trivial,by simp only[top];exact Nat.min_le_right _ _,fun a=>by cases d<;>simp[fn,opb]⟩
theorem lY{n:Nat}{d:Bool}:Qh n d (.leaf (!d)) (.leaf (!d)) (.leaf (!d)):=
 ⟨trivial,by simp[top],fun a=>by cases d<;>simp[fn,opb]⟩
theorem AAa{n:Nat}{d:Bool}{t s u1 u2:T}(ht:Wf n t)(hs:Wf n s)(hv:min (top n t) (top n s)<n)
  (h1:Qh n d (Rl (min (top n t) (top n s)) t) (Rl (min (top n t) (top n s)) s) u1) (h2:Qh n d (Ri (min (top n t) (top n s)) t) (Ri (min (top n t) (top n s)) s) u2) :
  Qh n d t s (mk (min (top n t) (top n s)) u1 u2):=by
 have vt:min (top n t) (top n s)<=top n t:=Nat.min_le_left _ _;have vs:min (top n t) (top n s)<=top n s:=Nat.min_le_right _ _;generalize hmv:min (top n t) (top n s)=v at *;have a1:=(lo_wf ht vt hv).2;have a2:=(lo_wf hs vs hv).2;have b1:=(hi_wf ht vt hv).2;have b2:=(hi_wf hs vs hv).2;have w:=mk_wf hv h1.1 h2.1 (Nat.lt_of_lt_of_le (Nat.lt_min.2 ⟨a1,a2⟩) h1.2.1) (Nat.lt_of_lt_of_le (Nat.lt_min.2 ⟨b1,b2⟩) h2.2.1);refine⟨w.1,by rw[hmv];exact w.2,fun a=>?_⟩;rw[mk_fn,ZL ht vt a,ZL hs vs a,h1.2.2,h2.2.2];split<;>rfl
noncomputable def PK(n:Nat)(d:Bool)(t s:T):T:=br n fun a=>opb d (fn t a) (fn s a)
theorem qQ{n:Nat}{d:Bool}{t s u:T}(ht:Wf n t)(hs:Wf n s)(h:Qh n d t s u):u=PK n d t s:=by refine canon' h.1 (Un _ _) fun a=>?_;rw[h.2.2,PK,VS];intro x y e;have e1:fn t x=fn t y:=Hk ht fun i _ h2=>e i (zero_le _) h2;have e2:fn s x=fn s y:=Hk hs fun i _ h2=>e i (zero_le _) h2;simp only[e1,e2]
theorem Nc(n:Nat)(d:Bool)(t s:T):Wf n (PK n d t s):=Un _ _
theorem bn{n:Nat}{d:Bool}{t s:T}(ht:Wf n t)(hs:Wf n s)(a:Nat->Bool):fn (PK n d t s) a=opb d (fn t a) (fn s a):=by rw[PK,VS];intro x y e;have e1:fn t x=fn t y:=Hk ht fun i _ h2=>e i (zero_le _) h2;have e2:fn s x=fn s y:=Hk hs fun i _ h2=>e i (zero_le _) h2;simp only[e1,e2]
def nD(i:Nat):T:=.node i (.leaf false) (.leaf true)
theorem jb{n i:Nat}(h:i<n):Wf n (nD i):=⟨h,h,h,by simp,trivial,trivial⟩
theorem yl(i:Nat)(a:Nat->Bool):fn (nD i) a=a i:=by simp only[nD,fn];cases a i<;>rfl
theorem vY{n:Nat}{t:T}(w:Wf n t):(post t []).length+1<=2^n:=by obtain⟨N,e,_,_,_,z⟩:=H7 t [] Ny;rw[e,List.nil_append];have a:=Wx w;have b:2^(n-top n t)<=2^n:=Nat.pow_le_pow_right (by omega) (by omega);omega
end Go.Proofs.YtjniafcnjbbomaaGreatDoor.BT
namespace Go.Proofs.YtjniafcnjbbomaaGreatDoor.DE.V
section
open Go BT
attribute [local simp] Kj
@[simp] theorem mn_i(k:IntKind)(a b:Int):mnD (.i k a) (.i k b)=some (.i k (if b<a then b else a)):=by simp[mnD]
@[simp] theorem bld_nil(z:List D):B8 z []=some z:=(rfl)
theorem jn_eq{Z:Type}(K:Z)(X:Z->Prop):jn K X=X K:=rfl
theorem sz{Z:Type}{K:Z}{X:Z->Prop}(P:Z->Prop)(hK:P K)(hX:∀k,P k->X k):jn K X:=hX K hK
def Pg(x:Nd):D:=.agg (C5 x)
def OU(x:Row):D:=.agg (Ar x)
theorem Yj:Ng (.agg [.i,.i,.i]) Pg:=Xf
theorem Pc:Ng (.agg [.i,.i]) OU:=Kh
section
variable {Z β:Type}[DecidableEq Z]{kk:KK}{ek:Z->D}{ev:β->D}
theorem Uz(h:Ng kk ek)(a:Z):∀(es:List (Z × β)) (j:Nat),assoc a es=none->Hf kk (ek a) (C8 ek ev es) j=some none
 |[],_,_=>rfl
 |(k,v)::es,j,q=>by
  simp only[assoc] at q;split at q
  .cases q
  .rename_i e;simp only[C8,map_cons,Hf,h a k,e,decide_false];exact Uz h a es (j+1) q
theorem lO(h:Ng kk ek){a:Z}(hk:isKey kk (ek a)=true){z:D}{S:A1}{id:Nat}{es:List (Z × β)}(hS:AA S id=some (.map (C8 ek ev es)))(ha:assoc a es=none) :
  ig kk z S (.mp id) (ek a)=some (.AY [z,.i .i64 es.length],sset S id (.map (C8 ek ev es++[(ek a,z)]))):=by
 simp only[ig,hk,if_true,hS,Uz h a es 0 ha];simp[C8]
theorem Up(v:D)(k:D)(u:D):∀es:List (D×D),Xi v es.length (es++[(k,u)])=es++[(k,v)]
 |[]=>rfl
 |e::es=>by simp[Xi,Up v k u es]
theorem qW{S:A1}{id:Nat}{es:List (D×D)}{k u v:D}(hS:AA S id=some (.map (es++[(k,u)]))) :
  oG S (.mp id) (.i .i64 es.length) v=some (sset S id (.map (es++[(k,v)]))):=by
 simp only[oG,hS];rw[if_pos ⟨by omega,by simp;omega⟩];simp[Up]
end
def MkI(ik:Nat)(pr:Nat->Prop)(M:List T)(S:A1):Prop:=
 ∃n o u,AA S ik=some (.box [.sl 3 n ((CH M).map C5) o,u])/\Mj S n M.length o/\(∀t,o=.tok t->¬pr t) /\
  ((u=.Cy/\M=[])\/∃iu,u=.mp iu/\¬pr iu/\AA S iu=some (.map (C8 Pg eI (M.map fun s=>(nd M s,code M s)))))
noncomputable def Jn(M:List T)(t:T):List T:=match t with
 |.leaf _=>M
 |.node v l h=>if .node v l h∈M then M else M++[.node v l h]
theorem Sw{M:List T}(hM:Cl M){v:Nat}{l h:T}(k:kids M (.node v l h)):∀(N:List T),(∀s,s∈N->s∈M)->assoc (nd M (.node v l h)) (N.map fun s=>(nd M s,code M s))=if T.node v l h∈N then some (code M (.node v l h)) else none
 |[],_=>by simp[assoc]
 |s::N,hN=>by
  simp only[map_cons,assoc,Sw hM k N (fun x hx=>hN x (List.mem_cons_of_mem _ hx))];by_cases e:T.node v l h=s
  .subst e;simp
  .have:nd M (.node v l h)≠nd M s:=fun h'=>e (bj k (El hM s (hN s (by simp))) h');simp[this,e]
theorem nF{M:List T}{t:T}(h:Cl (M++[t])):(M++[t]).map (fun s=>(nd (M++[t]) s,code (M++[t]) s))=M.map (fun s=>(nd M s,code M s))++[(nd M t,(M.length:Int)+2)]:=by
 obtain⟨h1,h2,h3⟩:=ER.1 h;rw[map_append];congr 1
 .apply List.map_congr_left;intro s hs;rw[Vq [t] (El h1 s hs),Hi [t] (XF h1 s hs)]
 .simp only[map_cons,map_nil,Vq [t] h3];congr 2;revert h2 h3;cases t with
  |leaf _=>exact fun _ h=>h.elim
  |node v l h=>
   intro h2 _;simp only[code];rw[MV [] h2]
theorem v327(
       ik:Nat) (pr:Nat->Prop) {M:List T} (hM:Cl M) (hl:M.length<1000000) (v:Nat) (l h:T) (kl:sub M l) (kh:sub M h) (S:A1) (hI:MkI ik pr M S) (xY:¬pr ik) (fX:∀j,pr j->j<S.length) :
  ∃S',call dp 327 [.bx ik 0,.i .i64 v,.i .i64 (code M l),.i .i64 (code M h)] S=some (.i .i64 (code (Jn M (mk v l h)) (mk v l h)),S')/\MkI ik pr (Jn M (mk v l h)) S'/\Es ik S S'/\(∀j e,pr j->AA S j=some e->AA S' j=some e)/\S.length<=S'.length:=by
 let P:D->A1->Prop:=fun r S'=>r=.i .i64 (code (Jn M (mk v l h)) (mk v l h))/\MkI ik pr (Jn M (mk v l h)) S'/\Es ik S S'/\(∀j e,pr j->AA S j=some e->AA S' j=some e)/\S.length<=S'.length
 obtain⟨r,S',e,rfl,h1,h2,h3,h4⟩:=f327 (.bx ik 0) (.i .i64 v) (.i .i64 (code M l)) (.i .i64 (code M h)) S P (by
  simp only[s327,PG];by_cases e:l=h
  .subst e;simp;have hm:mk v l l=l:=by simp[mk]
   have ha:Jn M l=M:=by
    revert kl;cases l with
    |leaf _=>intro _;rfl
    |node _ _ _=>intro k;simp only[Jn];exact if_pos k
   exact⟨by rw[hm,ha],by rw[hm,ha];exact hI,Es.refl _ _,fun _ _ _ e=>e,le_refl _⟩
  .have CF:¬code M l=code M h:=fun e'=>e (GA kl kh e');have hm:mk v l h=.node v l h:=by simp[mk,e]
   have kk:kids M (.node v l h):=⟨kl,kh⟩
   obtain⟨n,o,u,j1,j2,jp,j3⟩:=hI;have gk:=AJ j1
   obtain⟨c,hbin,hcu⟩:∃c,A4 .eql .map u .Cy=some (.b c)/\(c=true<->u=.Cy):=by
    rcases j3 with⟨rfl,_⟩|⟨iu,rfl,_⟩
    .exact⟨true,rfl,by simp⟩
    .exact⟨false,rfl,by simp⟩
   simp[-Oi,CF,B8,j1,show ¬ik=S.length by omega,hbin];rw[show[D.i .i64 (v:Int),.i .i64 (code M l),.i .i64 (code M h)]=C5 (nd M (.node v l h)) from rfl]
   refine sz (fun(k:D->D->D->A1->Prop)=>∀(y:D) (iu:Nat) (S15:A1),AA S15 S.length=some (.box (C5 (nd M (.node v l h))))->AA S15 ik=some (.box [.sl 3 n ((CH M).map C5) o,.mp iu])->Mj S15 n M.length o->¬pr iu->iu≠ik->iu≠S.length ->
    AA S15 iu=some (.map (C8 Pg eI (M.map fun s=>(nd M s,code M s))))->Es ik S S15->(∀j e,pr j->AA S j=some e->AA S15 j=some e)->S.length<=S15.length->k (.bx ik 0) (.bx S.length 0) y S15) ?_ ?_
   .intro y iu S15 b0 b1 b2 b3 b3k b3s b4 b5 b6 b7;have ND:=Gk Yj (a:=nd M (.node v l h)) (OS _) b4 true (.i .i64 0);rw[Sw hM kk M (fun _ h=>h)] at ND;simp only[Pg] at ND;simp[b0,b1,ND,jn_eq];by_cases Q2:T.node v l h∈M
    .simp[Q2];have ha:Jn M (mk v l h)=M:=by rw[hm];simp only[Jn];exact if_pos Q2
     exact⟨by rw[ha,hm];rfl,by rw[ha];exact⟨n,o,_,b1,b2,jp,.inr ⟨iu,rfl,b3,b4⟩⟩,b5,b6,b7⟩
    .have ha:Jn M (mk v l h)=M++[.node v l h]:=by rw[hm];simp only[Jn];exact if_neg Q2
     have hc:Cl (M++[.node v l h]):=ER.2 ⟨hM,Q2,kk⟩;have ND:((CH M).map C5).length=M.length:=by rw[length_map,BU]
     obtain⟨t',S4,q4,l4,p4,m4,z4,zt,k4⟩:=LR (k:=3) (n':=false) (xs:=(CH M).map C5) (ys:=[C5 (nd M (.node v l h))]) (o':=.ro) (by rw[ND];exact b2) (by rw[ND];simp[AP];omega) (by simp);have c0:=p4 _ _ b0;have c1:=p4 _ _ b1;have c4:=m4 _ _ b4;have c6:∀j e,pr j->AA S j=some e->AA S4 j=some e:=fun j e hj he=>k4 _ _ (b6 j e hj he) (fun t ht hjt=>jp t ht (hjt▸hj));have hX:(CH M).map C5++[C5 (nd M (.node v l h))]=(CH (M++[.node v l h])).map C5:=by rw[JP hc,map_append];rfl
     rw[hX] at q4;simp[Q2,b0,b1,q4,c0,c1,BU];rw[wrap64 ⟨by omega,by omega⟩];have s1:AA (sset S4 ik (.box [.sl 3 false ((CH (M++[.node v l h])).map C5) (.tok t'),.mp iu])) ik=_:=AR _ (AJ c1);have s0:AA (sset S4 ik (.box [.sl 3 false ((CH (M++[.node v l h])).map C5) (.tok t'),.mp iu])) S.length=_:=(AB _ (by omega)).trans c0;have su:AA (sset S4 ik (.box [.sl 3 false ((CH (M++[.node v l h])).map C5) (.tok t'),.mp iu])) iu=_:=(AB _ b3k).trans c4;have sm:∀j e,pr j->AA S j=some e->AA (sset S4 ik (.box [.sl 3 false ((CH (M++[.node v l h])).map C5) (.tok t'),.mp iu])) j=some e:=fun j e hj he=>(AB _ (by rintro rfl;exact xY hj)).trans (c6 j e hj he);have st:AA (sset S4 ik (.box [.sl 3 false ((CH (M++[.node v l h])).map C5) (.tok t'),.mp iu])) t'=_:=(AB _ (by rintro rfl;rw[c1] at l4;cases l4)).trans l4;have P5:Es ik S (sset S4 ik (.box [.sl 3 false ((CH (M++[.node v l h])).map C5) (.tok t'),.mp iu])):=fun id cs hid e=>(AB _ hid).trans (p4 _ _ (b5 _ _ hid e));have z5:(sset S4 ik (.box [.sl 3 false ((CH (M++[.node v l h])).map C5) (.tok t'),.mp iu])).length=S15.length+1:=by rw[BR];exact z4
     simp only[s0];generalize sset S4 ik (.box [.sl 3 false ((CH (M++[.node v l h])).map C5) (.tok t'),.mp iu])=S5 at *;have hass:assoc (nd M (.node v l h)) (M.map fun s=>(nd M s,code M s))=none:=by rw[Sw hM kk M (fun _ h=>h),if_neg Q2]
     have UW:=lO Yj (ev:=eI) (z:=.i .i64 0) (OS _) su hass;simp only[Pg] at UW;have yJ:(C8 Pg eI (M.map fun s=>(nd M s,code M s))).length=M.length:=by simp[C8]
     have hes:oG (sset S5 iu (B9.map (C8 Pg eI (M.map fun s=>(nd M s,code M s))++[(D.agg (C5 (nd M (.node v l h))),D.i .i64 0)]))) (.mp iu) (.i .i64 M.length) (.i .i64 ((M.length:Int)+2)) =
       some (sset (sset S5 iu (B9.map (C8 Pg eI (M.map fun s=>(nd M s,code M s))++[(D.agg (C5 (nd M (.node v l h))),D.i .i64 0)]))) iu (B9.map (C8 Pg eI (M.map fun s=>(nd M s,code M s))++[(D.agg (C5 (nd M (.node v l h))),D.i .i64 ((M.length:Int)+2))]))):=by
      have:=qW (v:=.i .i64 ((M.length:Int)+2)) (AR (B9.map (C8 Pg eI (M.map fun s=>(nd M s,code M s))++[(.agg (C5 (nd M (.node v l h))),.i .i64 0)])) (AJ su))
      rwa [yJ] at this
     simp only[K2,rdK_nd,A5,MC,true_and];rw[show(M.map fun s=>(nd M s,code M s)).length=M.length by simp] at UW;rw[UW];simp only[A5,CX,List.getElem?_cons_succ,List.getElem?_cons_zero];rw[hes];simp only[A5]
     have hX2:C8 Pg eI (M.map fun s=>(nd M s,code M s))++[(D.agg (C5 (nd M (.node v l h))),D.i .i64 ((M.length:Int)+2))]=C8 Pg eI ((M++[T.node v l h]).map fun s=>(nd (M++[T.node v l h]) s,code (M++[T.node v l h]) s)):=by rw[nF hc];simp[C8,Pg,eI]
     rw[hX2];have lu:=AJ su;refine⟨?_,?_,?_,?_,?_⟩
     .rw[ha,hm];simp only[code];rw[MV [] Q2]
     .rw[ha]
      exact⟨false,.tok t',.mp iu,(AB _ (Ne.symm b3k)).trans ((AB _ (Ne.symm b3k)).trans s1),
       .inr ⟨rfl,t',rfl,(AB _ (by rintro rfl;rw[su] at st;cases st)).trans ((AB _ (by rintro rfl;rw[su] at st;cases st)).trans st)⟩,
       (fun t ht hp=>by injection ht with ht;subst ht;have:=fX _ hp;omega),.inr ⟨iu,rfl,b3,by rw[AR _ (by rw[BR];exact lu)]⟩⟩
     .intro id cs hid e;have e5:=P5 _ _ hid e;have:id≠iu:=by rintro rfl;rw[su] at e5;cases e5
      exact(AB _ this).trans ((AB _ this).trans e5)
     .intro j e hj he;have:j≠iu:=by rintro rfl;exact b3 hj
      exact(AB _ this).trans ((AB _ this).trans (sm j e hj he))
     .rw[BR,BR];omega
   .intro k hK;rcases j3 with⟨rfl,rfl⟩|⟨iu,rfl,j4,j5⟩
    .have hc:c=true:=hcu.2 rfl;subst hc;simp[-Ca,show ¬ik=S.length+1 by omega]
     have S15:∀j,j≠ik->j≠S.length->j≠S.length+1->AA (sset (B9.map []::B9.box (C5 (nd [] (.node v l h)))::S) ik (.box [.sl 3 n ((CH []).map C5) o,.mp (S.length+1)])) j=AA S j:=by intro j h1 h2 h3;rw[AB _ h1];simp[h2,h3]
     refine hK _ (S.length+1) _ ?_ ?_ ?_ (fun hp=>by have:=fX _ hp;omega) (by omega) (by omega) ?_ ?_ ?_ (by rw[BR];simp;omega)
     .rw[AB _ (by omega)];simp
     .exact AR _ (by simp;omega)
     .rcases j2 with j2|⟨l1,t,l2,l3⟩
      .exact .inl j2
      .exact .inr ⟨l1,t,l2,by rw[S15 t (by rintro rfl;rw[j1] at l3;cases l3) (by have:=AJ l3;omega) (by have:=AJ l3;omega)];exact l3⟩
     .rw[AB _ (by omega)];simp[C8]
     .intro id cs hid e;have:=AJ e;rw[S15 id hid (by omega) (by omega)];exact e
     .intro j e hj he;have:=AJ he;rw[S15 j (by rintro rfl;exact xY hj) (by omega) (by omega)];exact he
    .have hc:c=false:=by rw[<-not_eq_true,hcu];intro h;cases h
     subst hc;simp;have giu:=AJ j5
     exact hK _ iu _ (by simp) (AM j1) (j2.push _) j4 (by rintro rfl;rw[j1] at j5;cases j5) (by omega) (AM j5) (Es.push _ _ _) (fun _ _ _ he=>AM he) (by simp))
 exact⟨S',e,h1,h2,h3,h4⟩
end
open Go BT
theorem v326(nl B3:Bool)(ord:List Row){L:List T}(root:Int)(hL:Cl L)(hb:L.length<=1000000)(t:T)(ht:sub L t)(v:Nat)(hv:v<ord.length) :
  A0 (call dp) 326 [eB nl B3 ord (CH L) root,.i .i64 (code L t),.i .i64 v]=some (.AY [.i .i64 (code L (Rl v t)),.i .i64 (code L (Ri v t))]):=by
 apply i326 _ _ _ _ (by simp[A9]) rfl;have h0:=Cd L t;have h1:=HS ht;have uX:=wJ nl B3 ord (CH L) root (code L t) ⟨by omega,by omega⟩ (by rw[BU];exact h1);rw[JY ht] at uX;simp only[eB] at uX;simp[s326,uX];by_cases e:top ord.length t=v
 .have e':(top ord.length t:Int)=v:=by omega
  cases t with
  |leaf b=>simp only[top] at e;omega
  |node w l h=>
   simp only[top] at e e';subst e;have oS:=Eo L w l h;have Q0:(code L (.node w l h)-2).toNat=pos L (.node w l h):=by simp only[code];omega
   simp[top];rw[wrap64 ⟨by omega,by omega⟩,Td _ (by omega) (by rw[Q0];exact Xp ht)];simp[nd,Rl,Ri]
 .have e':¬(top ord.length t:Int)=v:=by omega
  cases t with
  |leaf b=>simp[e',Rl,Ri]
  |node w l h=>simp only[top] at e;simp[e',Rl,Ri,e]
def dI(d:Bool):Int:=if d then 1 else 0
theorem Od(M:List T)(d:Bool):code M (.leaf d)=dI d:=by cases d<;>rfl
theorem TA(L:List T)(d:Bool):∀t:T,code L t=dI d<->t=.leaf d
 |.leaf b=>by cases b<;>cases d<;>simp[code,dI]
 |.node v l h=>by
  have:=Eo L v l h;constructor
  .intro e;cases d<;>simp[dI] at e<;>omega
  .intro e;cases e
theorem Oy(L:List T):∀t:T,code L t<2<->∃b,t=.leaf b
 |.leaf b=>⟨fun _=>⟨b,rfl⟩,fun _=>OR L b⟩
 |.node v l h=>⟨fun e=>by have:=Eo L v l h;omega,fun⟨b,e⟩=>by cases e⟩
def ApI(d:Bool)(La Lb:List T)(na Q3 nb Qg:Bool)(oa ob:List Row)(ra rb:Int)(i2 i3 ia ib i6 ik im:Nat)(S:A1):Prop:=
 AA S i2=some (.box [.i .i64 (dI d)])/\AA S i3=some (.box [.mp im])/\AA S ia=some (.box [AN na oa,Cm Q3 (CH La),.i .i64 ra])/\AA S ib=some (.box [AN nb ob,Cm Qg (CH Lb),.i .i64 rb]) /\
 AA S i6=some (.box [.fn 325 [.bx i2 0,.bx i3 0,.bx ia 0,.bx ib 0,.bx i6 0,.bx ik 0]])
def DnI(n:Nat)(d:Bool)(La Lb M:List T)(done:List (Row×Int)):Prop:=
 (done.map (·.1)).Nodup/\∀e,e∈done->∃t s u,sub La t/\sub Lb s/\e=((code La t,code Lb s),code M u)/\sub M u/\Qh n d t s u
theorem DnI.app{n:Nat}{d:Bool}{La Lb M:List T}{done:List (Row×Int)}(N:List T)(h:DnI n d La Lb M done):DnI n d La Lb (M++N) done:=
 ⟨h.1,fun e he=>by
  obtain⟨t,s,u,a,b,c,k,l⟩:=h.2 e he
  exact⟨t,s,u,a,b,by rw[c,Hi N k],W7 N k,l⟩⟩
theorem DnI.len{n:Nat}{d:Bool}{La Lb M:List T}{done:List (Row×Int)}(h:DnI n d La Lb M done):done.length<=(La.length+2)*(Lb.length+2):=by
 have:=Ku (L:=(List.range (La.length+2)).flatMap fun(i:Nat)=>(List.range (Lb.length+2)).map fun(j:Nat)=>((i:Int),(j:Int))) h.1 (by
  intro k hk;obtain⟨e,he,rfl⟩:=List.mem_map.1 hk;obtain⟨t,s,u,a,b,c,_,_⟩:=h.2 e he;rw[c];have:=Cd La t;have:=HS a;have:=Cd Lb s;have:=HS b;refine List.mem_flatMap.2 ⟨(code La t).toNat,List.mem_range.2 (by omega),List.mem_map.2 ⟨(code Lb s).toNat,List.mem_range.2 (by omega),?_⟩⟩
  rw[Int.toNat_of_nonneg (by omega),Int.toNat_of_nonneg (by omega)])
 rw[length_map] at this;refine le_trans this (Nat.le_of_eq ?_);generalize La.length+2=p;generalize Lb.length+2=q
 induction p with
 |zero=>simp
 |succ p ih=>rw[List.range_succ,List.flatMap_append,length_append,ih];simp[succ_mul]
theorem ApI.pres{d:Bool}{La Lb:List T}{na Q3 nb Qg:Bool}{oa ob:List Row}{ra rb:Int}{i2 i3 ia ib i6 ik im:Nat}{S S':A1}(h:ApI d La Lb na Q3 nb Qg oa ob ra rb i2 i3 ia ib i6 ik im S)(p:Es ik S S')
  (k2:i2≠ik) (k3:i3≠ik) (ka:ia≠ik) (kb:ib≠ik) (k6:i6≠ik):ApI d La Lb na Q3 nb Qg oa ob ra rb i2 i3 ia ib i6 ik im S':=
 ⟨p _ _ k2 h.1,p _ _ k3 h.2.1,p _ _ ka h.2.2.1,p _ _ kb h.2.2.2.1,p _ _ k6 h.2.2.2.2⟩
theorem Uk{Z β:Type}[DecidableEq Z]{a:Z}{b:β}:∀{es:List (Z × β)},assoc a es=some b->(a,b)∈es
 |(k,v)::es,h=>by
  simp only[assoc] at h;split at h
  .rename_i e;injection h with h;subst e h;simp
  .exact List.mem_cons_of_mem _ (Uk h)
theorem Zc{M:List T}{v:Nat}{l h:T}(kl:sub M l):sub (Jn M (mk v l h)) (mk v l h):=by
 unfold mk;split
 .revert kl;cases l with
  |leaf _=>exact fun k=>k
  |node _ _ _=>intro k;simp only[Jn,sub] at *;rw[if_pos k];exact k
 .simp only[Jn,sub];split
  .assumption
  .simp
theorem aC{M:List T}(hM:Cl M){v:Nat}{l h:T}(kl:sub M l)(kh:sub M h):(∃N,Jn M (mk v l h)=M++N)/\Cl (Jn M (mk v l h))/\(Jn M (mk v l h)).length<=M.length+1:=by
 unfold mk;split
 .have ha:Jn M l=M:=by
   revert kl;cases l with
   |leaf _=>intro _;rfl
   |node _ _ _=>intro k;simp only[Jn];exact if_pos k
  rw[ha];exact⟨⟨[],by simp⟩,hM,by omega⟩
 .simp only[Jn];split
  .exact⟨⟨[],by simp⟩,hM,by omega⟩
  .rename_i hn;exact⟨⟨_,rfl⟩,ER.2 ⟨hM,hn,kl,kh⟩,by simp⟩
theorem wfs{n:Nat}{L:List T}(h:∀t,t∈L->Wf n t):∀{t:T},sub L t->Wf n t
 |.leaf _,_=>trivial
 |.node _ _ _,k=>h _ k
theorem v325(
       d:Bool) {La Lb:List T} (hLa:Cl La) (hLb:Cl Lb) (na Q3 nb Qg:Bool) (oa ob:List Row) (ra rb:Int) (i2 i3 ia ib i6 ik im:Nat)
  (wa:∀t,t∈La->Wf oa.length t) (wb:∀t,t∈Lb->Wf oa.length t) (oX:ob.length=oa.length) (hz:(La.length+2)*(Lb.length+2)<=1000000)
  (za:La.length<=4096) (zb:Lb.length<=4096)
  (k2:i2≠ik) (k3:i3≠ik) (ka:ia≠ik) (kb:ib≠ik) (k6:i6≠ik):∀(k:Nat) (t s:T) (M:List T) (done:List (Row×Int)) (S:A1),t.size+s.size<k->sub La t->sub Lb s->Cl M->M.length<=done.length ->
  ApI d La Lb na Q3 nb Qg oa ob ra rb i2 i3 ia ib i6 ik im S->AA S im=some (.map (C8 OU eI done))->DnI oa.length d La Lb M done->MkI ik (· = im) M S ->
  ∃u M' Li S',call dp 325 [.i .i64 (code La t),.i .i64 (code Lb s),.bx i2 0,.bx i3 0,.bx ia 0,.bx ib 0,.bx i6 0,.bx ik 0] S=some (.i .i64 (code M' u),S')/\Qh oa.length d t s u/\sub M' u/\Cl M'/\(∃N,M'=M++N) /\
   M'.length<=Li.length/\AA S' im=some (.map (C8 OU eI Li))/\DnI oa.length d La Lb M' Li/\MkI ik (· = im) M' S'/\Es ik S S' /\
   ∀e,e∈Li->e∈done\/∃t' s',sub La t'/\sub Lb s'/\e.1=(code La t',code Lb s')/\t'.size+s'.size<=t.size+s.size:=by
 intro k
 induction k with
 |zero=>intro t s _ _ _ h;omega
 |succ k ih=>
  intro t s M done S hk ht hs hM hMd hA him hD hI
  let P:D->A1->Prop:=fun r S'=>∃u M' Li,r=.i .i64 (code M' u)/\Qh oa.length d t s u/\sub M' u/\Cl M'/\(∃N,M'=M++N) /\
   M'.length<=Li.length/\AA S' im=some (.map (C8 OU eI Li))/\DnI oa.length d La Lb M' Li/\MkI ik (· = im) M' S'/\Es ik S S' /\
   ∀e,e∈Li->e∈done\/∃t' s',sub La t'/\sub Lb s'/\e.1=(code La t',code Lb s')/\t'.size+s'.size<=t.size+s.size
  obtain⟨r,S',e,u,M',Li,rfl,h⟩:=f325 (.i .i64 (code La t)) (.i .i64 (code Lb s)) (.bx i2 0) (.bx i3 0) (.bx ia 0) (.bx ib 0) (.bx i6 0) (.bx ik 0) S P (by
   have stay:∀u,Qh oa.length d t s u->sub M u->P (.i .i64 (code M u)) S:=fun u hu hs=>⟨u,M,done,rfl,hu,hs,hM,⟨[],by simp⟩,hMd,him,hD,hI,Es.refl _ _,fun e he=>.inl he⟩
   simp[s325,hA.1];by_cases e1:t=.leaf d
   .subst e1;simp[Od];have:=stay (.leaf d) dJ trivial
    rwa [Od] at this
   have f1:¬code La t=dI d:=fun h=>e1 ((TA La d t).1 h);by_cases e2:s=.leaf d
   .subst e2;simp[f1,Od];have:=stay (.leaf d) bo trivial
    rwa [Od] at this
   have f2:¬code Lb s=dI d:=fun h=>e2 ((TA Lb d s).1 h);have wt:=wfs wa ht;have ws:=wfs wb hs;by_cases e3:code La t<2/\code Lb s<2
   .obtain⟨b,rfl⟩:=(Oy La t).1 e3.1;obtain⟨c,rfl⟩:=(Oy Lb s).1 e3.2;have hbd:b=!d:=by cases b<;>cases d<;>simp at e1 ⊢
    have hcd:c=!d:=by cases c<;>cases d<;>simp at e2 ⊢
    subst hbd hcd;have hw:IntKind.i64.wrap (1-dI d)=dI (!d):=by cases d<;>rfl
    simp[f1,f2,e3.1,e3.2,hw];have:=stay (.leaf (!d)) lY trivial
    rwa [Od] at this
   have hv:min (top oa.length t) (top oa.length s)<oa.length:=by
    rcases Nat.lt_or_ge (min (top oa.length t) (top oa.length s)) oa.length with h|h
    .exact h
    .exfalso;apply e3;constructor
     .rw[Oy];cases t with
      |leaf b=>exact⟨b,rfl⟩
      |node v _ _=>have:=wt.1;simp only[top] at h;omega
     .rw[Oy];cases s with
      |leaf b=>exact⟨b,rfl⟩
      |node v _ _=>have:=ws.1;simp only[top] at h;omega
   have oN:D.agg [.i .i64 (code La t),.i .i64 (code Lb s)]=OU (code La t,code Lb s):=rfl;have ND:=Gk Pc (a:=(code La t,code Lb s)) (GV _) him true (.i .i64 0);have a0:=Cd La t;have a1:=HS ht;have b0:=Cd Lb s;have b1:=HS hs;have lJ:=wJ na Q3 oa (CH La) ra (code La t) ⟨by omega,by omega⟩ (by rw[BU];exact a1);have lK:=wJ nb Qg ob (CH Lb) rb (code Lb s) ⟨by omega,by omega⟩ (by rw[BU];exact b1);rw[JY ht] at lJ;rw[JY hs,oX] at lK;generalize hvd:min (top oa.length t) (top oa.length s)=v at *;have hmin:(if(top oa.length s:Int)<top oa.length t then(top oa.length s:Int) else top oa.length t)=v:=by split<;>omega
   have xj:=v326 na Q3 oa ra hLa (by omega) t ht v hv;have xk:=v326 nb Qg ob rb hLb (by omega) s hs v (by omega);simp only[eB] at lJ lK xj xk;have g:¬(code La t<2/\code Lb s<2):=e3
   have g':(¬code La t<2)\/(code La t<2/\¬code Lb s<2):=by
    by_cases q:code La t<2
    .exact .inr ⟨q,fun k=>g ⟨q,k⟩⟩
    .exact .inl q
   have szs:=jv v t;have szs':=jv v s;have szh:=kB v t;have szh':=kB v s
   have slt:(Rl v t).size+(Rl v s).size<t.size+s.size/\(Ri v t).size+(Ri v s).size<t.size+s.size:=by
    rcases Nat.le_total (top oa.length t) (top oa.length s) with q|q
    .have ev:top oa.length t=v:=by omega
     have:=Tx ev hv;have:=T4 ev hv;omega
    .have ev:top oa.length s=v:=by omega
     have:=Tx ev hv;have:=T4 ev hv;omega
   cases ha:assoc (code La t,code Lb s) done with
   |some z=>
    rw[ha] at ND;obtain⟨t',s',u,q1,q2,q3,q4,q5⟩:=hD.2 _ (Uk ha);simp only[Prod.mk.injEq] at q3;obtain⟨⟨q6,q7⟩,q8⟩:=q3;have:=GA ht q1 q6;subst this;have:=GA hs q2 q7;subst this;have fin:=stay u q5 q4;rcases g' with g1|⟨g1,g2⟩
    .simp[f1,f2,g1,hA.2.1,B8,oN,ND,q8];exact fin
    .simp[f1,f2,g1,g2,hA.2.1,B8,oN,ND,q8];exact fin
   |none=>
    rw[ha] at ND;obtain⟨A2,A3,Aa,Ab,A6⟩:=hA;have hmin':(if top oa.length s<top oa.length t then(top oa.length s:Int) else top oa.length t)=v:=by split<;>omega
    have hA:ApI d La Lb na Q3 nb Qg oa ob ra rb i2 i3 ia ib i6 ik im S:=⟨A2,A3,Aa,Ab,A6⟩
    have sum:t.size+s.size<=k:=by omega
    obtain⟨u1,M1,d1,S1,q1,o1,w1,c1,⟨N1,n1⟩,l1,m1,D1,I1,P1,x1⟩:=ih (Rl v t) (Rl v s) M done S (by omega) (wV hLa v ht) (wV hLb v hs) hM hMd hA him hD hI;have hA1:=hA.pres P1 k2 k3 ka kb k6;obtain⟨u2,M2,d2,S2,q2,o2,w2,c2,⟨N2,n2⟩,l2,m2,D2,I2,P2,x2⟩:=ih (Ri v t) (Ri v s) M1 d1 S1 (by omega) (ud hLa v ht) (ud hLb v hs) c1 l1 hA1 m1 D1 I1;have hA2:=hA1.pres P2 k2 k3 ka kb k6;have w1':sub M2 u1:=by rw[n2];exact W7 N2 w1
    have hc1:code M1 u1=code M2 u1:=by rw[n2,Hi N2 w1]
    have xl:∀e,e∈d2->e.1≠(code La t,code Lb s):=by
     intro e he e'
     have big:∀t' s',sub La t'->sub Lb s'->e.1=(code La t',code Lb s')->t'.size+s'.size=t.size+s.size:=by intro t' s' a b c;rw[e'] at c;simp only[Prod.mk.injEq] at c;rw[GA ht a c.1,GA hs b c.2]
     rcases x2 e he with h|⟨t',s',a,b,c,z⟩
     .rcases x1 e h with h|⟨t',s',a,b,c,z⟩
      .exact GO.1 ha e h e'
      .have:=big t' s' a b c;omega
     .have:=big t' s' a b c;omega
    have hnone:assoc (code La t,code Lb s) d2=none:=GO.2 xl
    have hnd2:((d2.map (·.1))++[(code La t,code Lb s)]).Nodup:=SM.2 ⟨D2.1,fun h=>by
     obtain⟨e,he,e'⟩:=List.mem_map.1 h
     exact xl e he e'⟩
    have PM:Qh oa.length d t s (mk v u1 u2):=by subst hvd;exact AAa wt ws hv o1 o2
    have hlen:d2.length+1<=1000000:=by
     obtain⟨a,b,c⟩:=aC c2 (v:=v) w1' w2;obtain⟨N3,n3⟩:=a;have hw3:=Zc (v:=v) (h:=u2) w1'
     have:DnI oa.length d La Lb (Jn M2 (mk v u1 u2)) (d2++[((code La t,code Lb s),code (Jn M2 (mk v u1 u2)) (mk v u1 u2))]):=by
      refine⟨by simpa using hnd2,fun e he=>?_⟩;rcases List.mem_append.1 he with he|he
      .rw[n3];exact(D2.app N3).2 e he
      .rw[List.mem_singleton.1 he];exact⟨t,s,_,ht,hs,rfl,hw3,PM⟩
     have:=this.len;simp at this;omega
    have xY:im≠ik:=by rintro rfl;obtain⟨_,_,_,b,_⟩:=I2;rw[m2] at b;cases b
    obtain⟨S3,q3,I3,P3,m3,_⟩:=v327 ik (· = im) c2 (by omega) v u1 u2 w1' w2 S2 I2 (Ne.symm xY) (fun j hj=>by have:=AJ m2;have hj':j=im:=hj;omega);have m3:=m3 im _ rfl m2;obtain⟨⟨N3,n3⟩,c3,l3⟩:=aC c2 (v:=v) w1' w2;have hw3:=Zc (v:=v) (h:=u2) w1';generalize Jn M2 (mk v u1 u2)=M3 at *;have hA3:=hA2.pres P3 k2 k3 ka kb k6;have xZ:=KT Pc (ev:=eI) (a:=(code La t,code Lb s)) (b:=code M3 (mk v u1 u2)) (GV _) m3 hnone;have hs4:=AR (B9.map (C8 OU eI (d2++[((code La t,code Lb s),code M3 (mk v u1 u2))]))) (AJ m3);have xn:=Gk Pc (a:=(code La t,code Lb s)) (GV _) hs4 false (.i .i64 0);rw[Kb,hnone] at xn;simp[assoc] at xn;have i3m:i3≠im:=by rintro rfl;rw[hA3.2.1] at m3;cases m3
    have hA4:AA (sset S3 im (B9.map (C8 OU eI (d2++[((code La t,code Lb s),code M3 (mk v u1 u2))])))) i3=_:=(AB _ i3m).trans hA3.2.1
    have fin:P (.i .i64 (code M3 (mk v u1 u2))) (sset S3 im (B9.map (C8 OU eI (d2++[((code La t,code Lb s),code M3 (mk v u1 u2))])))):=by
     refine⟨_,M3,_,rfl,PM,hw3,c3,⟨N1++(N2++N3),by rw[n3,n2,n1];simp⟩,by simp;omega,hs4,?_,?_,?_,?_⟩
     .refine⟨by simpa using hnd2,fun e he=>?_⟩;rcases List.mem_append.1 he with he|he
      .rw[n3];exact(D2.app N3).2 e he
      .rw[List.mem_singleton.1 he];exact⟨t,s,_,ht,hs,rfl,hw3,PM⟩
     .obtain⟨n',o',u',j1,j2,jp,j3⟩:=I3;have ne:∀j e,AA S3 j=some e->(∀es,e ≠ .map es)->j≠im:=by rintro j e h1 h2 rfl;rw[m3] at h1;injection h1 with h1;exact h2 _ h1.symm
      refine⟨n',o',u',(AB _ (ne _ _ j1 (by intro es h;cases h))).trans j1,?_,jp,?_⟩
      .rcases j2 with j2|⟨a,b,c,e⟩
       .exact .inl j2
       .exact .inr ⟨a,b,c,(AB _ (ne _ _ e (by intro es h;cases h))).trans e⟩
      .rcases j3 with j3|⟨iu,a,b,c⟩
       .exact .inl j3
       .exact .inr ⟨iu,a,b,(AB _ b).trans c⟩
     .intro id cs hid e;have e3:=P3 _ _ hid (P2 _ _ hid (P1 _ _ hid e));exact(AB _ (by rintro rfl;rw[m3] at e3;cases e3)).trans e3
     .intro e he;rcases List.mem_append.1 he with he|he
      .rcases x2 e he with h|⟨t',s',a,b,c,z⟩
       .rcases x1 e h with h|⟨t',s',a,b,c,z⟩
        .exact .inl h
        .exact .inr ⟨t',s',a,b,c,by omega⟩
       .exact .inr ⟨t',s',a,b,c,by omega⟩
      .rw[List.mem_singleton.1 he];exact .inr ⟨t,s,ht,hs,rfl,le_refl _⟩
    rw[hc1] at q1;simp only[OU,Ar,eI] at ND xZ xn;rcases g' with g1|⟨g1,g2⟩
    .simp[f1,f2,g1,A2,A3,Aa,Ab,A6,B8,ND,lJ,lK,hmin',xj,xk,q1,q2,q3,hA1.2.2.2.2,hA2.2.1,hA3.2.1,xZ,hA4,xn];exact fin
    .simp[f1,f2,g1,g2,A2,A3,Aa,Ab,A6,B8,ND,lJ,lK,hmin',xj,xk,q1,q2,q3,hA1.2.2.2.2,hA2.2.1,hA3.2.1,xZ,hA4,xn]
     exact fin)
  exact⟨u,M',Li,S',e,h⟩
def HX(r:Row):List Row->Int
 |[]=>-1
 |x::l=>if x=r then 0 else if HX r l<0 then -1 else HX r l+1
theorem Ur{r:Row}:∀{l:List Row},r∉l->HX r l = -1
 |[],_=>rfl
 |x::l,h=>by simp only[mem_cons,not_or] at h;simp[HX,Ne.symm h.1,Ur h.2]
theorem Tr{r:Row}:∀{l:List Row} {k:Nat},l[k]? = some r->r∉l.take k->HX r l=k
 |[],_,h,_=>by simp at h
 |x::l,0,h,_=>by simp at h;simp[HX,h]
 |x::l,k+1,h,hn=>by simp only[List.take_succ_cons,mem_cons,not_or] at hn;have:=Tr (l:=l) (k:=k) (by simpa using h) hn.2;simp[HX,Ne.symm hn.1,this];omega
theorem kI(r:Row):∀l:List Row,HX r l<l.length/\-1<=HX r l
 |[]=>by simp[HX]
 |x::l=>by
  have:=kI r l;simp only[HX,length_cons];split
  .omega
  .split<;>omega
theorem v100i(nl:Bool)(l:List Row)(r:Row)(hb:Bd l.length):A0 (call dp) 100 [AN nl l,.agg (Ar r)]=some (.i .i64 (HX r l)):=by
 apply i100 _ _ _ (by simp[A9]) rfl;simp[s100]
 let J:Nat->List D->A1->Prop:=fun q fr S=>∃k a4 a9,k+q=l.length/\r∉l.take k/\S=[B9.box (Ar r)]/\fr=B0 19 [(0,AN nl l),(3,.bx 0 0),(4,a4),(7,.i .i64 l.length),(8,.i .i64 k),(9,a9)]
 refine AW J ?_ l.length _ _ ⟨0,_,_,by simp,by simp,rfl,rfl⟩;rintro q fr S ⟨k,a4,a9,hk,hn,rfl,rfl⟩;rw[<-Ay,e100_0];simp[uq];by_cases h:k<l.length
 .obtain⟨x,hx⟩:∃x,l[k]? = some x:=⟨_,gA (by omega)⟩
  simp[h,Ee _ hx];by_cases e:r=x
  .subst e;simp[Tr hx hn]
  .simp[e,Bz (hb.lt (Nat.le_of_lt h))];refine⟨q-1,by omega,k+1,_,_,by omega,?_,rfl,rfl⟩;rw[BV hx];simp[hn,e]
 .have:l.take k=l:=take_of_length_le (by omega);rw[this] at hn;simp[h,yh,gO,Ur hn]
def zB:D:=eB true true [] [] 0
open Classical in
theorem v195(nl:Bool)(ord:List Row)(c:Bool)(hn:nl=true->ord=[])(hb:Bd ord.length):A0 (call dp) 195 [AN nl ord,.b c]=some (if CW ord/\ord.length<=4096 then eB nl true ord [] (if c then 1 else 0) else zB):=by
 apply i195 _ _ _ (by simp[A9]) (by split<;>simp[zB]);simp only[s195];by_cases h:CW ord/\ord.length<=4096
 .have UD:=v89 nl ord hb;simp only[h,and_self,decide_true] at UD;simp[UD,v159 nl ord hn (by simp[AP];omega),B8,jn_eq,h];cases c<;>simp<;>rfl
 .have UD:=v89 nl ord hb;simp only[h,decide_false] at UD;simp[UD,h];rfl
open Classical in
theorem v322(nl:Bool)(ord:List Row)(r:Row)(hn:nl=true->ord=[])(hb:Bd ord.length):A0 (call dp) 322 [AN nl ord,.agg (Ar r)]=some (if CW ord/\ord.length<=4096 then
  (if HX r ord<0 then .AY [zB,.i .i64 4] else .AY [eB nl false ord [(HX r ord,0,1)] 2,.i .i64 0]) else .AY [zB,.i .i64 1]):=by
 apply i322 _ _ _ (by simp[A9]) (by split<;>(try split)<;>simp[zB,AG,A9]);have UD:=v89 nl ord hb;have ze:=v100i nl ord r hb;by_cases h:CW ord/\ord.length<=4096
 .simp only[h,and_self,decide_true] at UD;by_cases h2:HX r ord<0
  .simp[py,UD,ze,h,h2];rfl
  .simp[py,UD,ze,h,h2,v159 nl ord hn (by simp[AP];omega),B8];rfl
 .simp only[h,decide_false] at UD;simp[py,UD,h];rfl
theorem v365(r:Int)(h:0<=r):A0 (call dp) 365 [.i .i64 r]=some (.i .i64 (swp r)):=by
 apply i365 _ _ rfl rfl;simp[s365,swp];split
 .rw[wrap64 ⟨by omega,by omega⟩]
 .intro h2;omega
def VT(ord:List Row)(ns:List Nd)(root:Int)(t:T):Prop:=
 (CW ord/\ord.length<=4096)/\Wf ord.length t/\ns=CH (post t [])/\root=code (post t []) t/\(post t []).length<=4096
theorem post_nil(t:T):Cl (post t [])/\sub (post t []) t/\∀n,Wf n t->∀s,s∈post t []->Wf n s:=by obtain⟨N,e,c,s,p,_⟩:=H7 t [] Ny;rw[List.nil_append] at e c s;rw[e];exact⟨c,s,fun n hw s hs=>p _ (Wf_her n) hw s hs⟩
theorem kN{ord:List Row}{ns:List Nd}{root:Int}:VB ord ns root<->∃t,VT ord ns root t:=by
 constructor
 .rintro⟨ho,hl,⟨hs,_,_⟩,t,e1,e2⟩;obtain⟨L,hL,e,hw⟩:=Zl hs;obtain⟨c,s,_⟩:=post_nil t;have:L=post t []:=Wl hL c (by rw[<-e,e1]);subst this;refine⟨t,ho,wfs hw s,e1,e2,?_⟩;rw[e1,BU] at hl;exact hl
 .rintro⟨t,ho,hw,rfl,rfl,hl⟩;obtain⟨c,s,w⟩:=post_nil t;refine⟨ho,by rw[BU];exact hl,⟨uJ c (w _ hw),Cd _ _,by rw[BU];exact HS s⟩,t,rfl,rfl⟩
theorem bZ:∀d:D,strip (strip d)=strip d:=by
 intro d;cases d with
 |agg cs=>
  simp only[strip];congr 1
  induction cs with
  |nil=>rfl
  |cons c cs ih=>
   simp only[EW,ih];congr 1;cases c<;>rfl
 |_=>rfl
theorem QH:∀l:List D,stripL (stripL l)=stripL l
 |[]=>rfl
 |x::l=>by simp[stripL,bZ,QH l]
theorem Ci(cf:AQ)(g:Nat)(args:List D):A0 cf g args=A0 cf g (stripL args):=by simp only[A0,QH]
theorem small{n:Nat}(h:n<=8){t:T}(w:Wf n t):(post t []).length<=255:=by have a:=vY w;have b:2^n<=2^8:=Nat.pow_le_pow_right (by omega) h;simp at b;omega
open Classical in
theorem v272(d:Bool)(na Q3 nb Qg:Bool)(oa:List Row)(xa xb:List Nd)(ra rb:Int)(t s:T)(ha:VT oa xa ra t)(hb:VT oa xb rb s)(h7:oa.length<=8)(hn:na=true->oa=[])(Rp:nb=true->oa=[]) :
  ∃n:Bool,(n=true->post (PK oa.length d t s) []=[])/\A0 (call dp) 272 [eB na Q3 oa xa ra,eB nb Qg oa xb rb,.i .i64 (dI d)] =
   some (.AY [eB na n oa (CH (post (PK oa.length d t s) [])) (code (post (PK oa.length d t s) []) (PK oa.length d t s)),.i .i64 0]):=by
 have oZ:VB oa xa ra:=kN.2 ⟨t,ha⟩;have pG:VB oa xb rb:=kN.2 ⟨s,hb⟩;have za:=small h7 ha.2.1;have zb:=small h7 hb.2.1;obtain⟨_,wt,rfl,rfl,_⟩:=ha;obtain⟨_,ws,rfl,rfl,_⟩:=hb;obtain⟨ca,sa,pa⟩:=post_nil t;obtain⟨cb,sb,pb⟩:=post_nil s;have e38a:=v38 na Q3 oa (CH (post t [])) (code (post t []) t) hn (by rw[BU];unfold Bd;omega) (by unfold Bd;omega);have e38b:=v38 nb Qg oa (CH (post s [])) (code (post s []) s) Rp (by rw[BU];unfold Bd;omega) (by unfold Bd;omega);have AAK:=v324 na nb oa oa (by unfold Bd;omega);simp only[oZ,pG,decide_true,eB] at e38a e38b AAK
 let S0:A1:=[B9.box [.fn 325 [.bx 2 0,.bx 6 0,.bx 0 0,.bx 1 0,.bx 7 0,.bx 4 0]],.box [.mp 5],.map [],.box [.sl 3 true [] .ro,.Cy],.box [.sl 2 true [] .ro,.sl 3 true [] .ro,.i .i64 0],.box [.i .i64 (dI d)],
  .box [AN nb oa,Cm Qg (CH (post s [])),.i .i64 (code (post s []) s)],.box [AN na oa,Cm Q3 (CH (post t [])),.i .i64 (code (post t []) t)]]
 obtain⟨u,M',Li,S',q,o,w,c,_,l,_,hD,I,Pb,_⟩:=v325 d ca cb na Q3 nb Qg oa oa (code (post t []) t) (code (post s []) s) 2 6 0 1 7 4 5 (pa _ wt) (pb _ ws) rfl
  (le_trans (Nat.mul_le_mul (show(post t []).length+2<=300 by omega) (show(post s []).length+2<=300 by omega)) (by decide)) (by omega) (by omega) (by decide) (by decide) (by decide) (by decide) (by decide)
  (t.size+s.size+1) t s [] [] S0 (by omega) sa sb Ny (by simp) ⟨rfl,rfl,rfl,rfl,rfl⟩ rfl ⟨by simp,fun _ h=>by cases h⟩ ⟨true,.ro,.Cy,rfl,.inl ⟨rfl,rfl,rfl⟩,(fun _ h=>by cases h),.inl ⟨rfl,rfl⟩⟩
 have hu:=qQ wt ws o;subst hu;have yQ:((post t []).length+2)*((post s []).length+2)<=1000000:=le_trans (Nat.mul_le_mul (show(post t []).length+2<=300 by omega) (show(post s []).length+2<=300 by omega)) (by decide);have hM:M'.length<=1000000:=le_trans l (le_trans hD.len yQ);obtain⟨n1,o1,u1,j1,j2,_⟩:=I;obtain⟨n,hn2,e91⟩:=v91 na n1 oa c hM (PK oa.length d t s) w hn (by simp[AP];omega);have zu:=small h7 (Nc oa.length d t s);refine⟨n,hn2,?_⟩;have p0:=Pb 0 _ (by decide) (show AA S0 0=some (.box [AN na oa,Cm Q3 (CH (post t [])),.i .i64 (code (post t []) t)]) from rfl);have p3:=Pb 3 _ (by decide) (show AA S0 3=some (.box [.sl 2 true [] .ro,.sl 3 true [] .ro,.i .i64 0]) from rfl);have l3:=AJ p3;rw[Ci] at e91;have e91':=Ci (call dp) 91 [AN na oa,.sl 3 n1 ((CH M').map C5) o1,.i .i64 (code M' (PK oa.length d t s))];rw[show stripL [AN na oa,.sl 3 n1 ((CH M').map C5) o1,.i .i64 (code M' (PK oa.length d t s))]=stripL [AN na oa,Cm n1 (CH M'),.i .i64 (code M' (PK oa.length d t s))] from rfl,e91] at e91';apply i272 _ _ _ _ (by simp[A9]) (by simp[AG,A9]);simp[s272,e38a,e38b,AAK];simp only[S0] at q;rw[q];simp[p0,j1,e91',show ¬3=S'.length by omega,p3,-Ca];rw[if_neg (by rw[BU];omega),AR _ (by simp;omega)];simp;rfl
theorem v271{na Q3 nb Qg nc nc':Bool}{oa ob oc:List Row}{xa xb xc:List Nd}{ra rb rc e:Int}(h:A0 (call dp) 272 [eB na Q3 oa xa ra,eB nb Qg ob xb rb,.i .i64 0]=some (.AY [eB nc nc' oc xc rc,.i .i64 e])) :
  A0 (call dp) 271 [eB na Q3 oa xa ra,eB nb Qg ob xb rb]=some (.AY [eB nc nc' oc xc rc,.i .i64 e]):=by
 apply i271 _ _ _ (by simp[A9]) (by simp[AG,A9]);simp only[eB] at h;simp[s271,h];rfl
theorem v198{na Q3 nb Qg nc nc':Bool}{oa ob oc:List Row}{xa xb xc:List Nd}{ra rb rc e:Int}(h:A0 (call dp) 272 [eB na Q3 oa xa ra,eB nb Qg ob xb rb,.i .i64 1]=some (.AY [eB nc nc' oc xc rc,.i .i64 e])) :
  A0 (call dp) 198 [eB na Q3 oa xa ra,eB nb Qg ob xb rb]=some (.AY [eB nc nc' oc xc rc,.i .i64 e]):=by
 apply i198 _ _ _ (by simp[A9]) (by simp[AG,A9]);simp only[eB] at h;simp[s198,h];rfl
noncomputable def eT(na n:Bool)(o:List Row)(t:T):D:=eB na n o (CH (post t [])) (code (post t []) t)
def TQ(na:Bool)(o:List Row):Prop:=na=true->o=[]
theorem VW{o:List Row}{t:T}(ho:CW o)(h7:o.length<=8)(w:Wf o.length t):VT o (CH (post t [])) (code (post t []) t) t:=
 ⟨⟨ho,by omega⟩,w,rfl,rfl,by have:=small h7 w;omega⟩
theorem andT(na Q3 nb Qg:Bool)(o:List Row)(t s:T)(ho:CW o)(h7:o.length<=8)(wt:Wf o.length t)(ws:Wf o.length s)(hn:TQ na o)(Rp:TQ nb o) :
  ∃n:Bool,(n=true->post (PK o.length false t s) []=[])/\A0 (call dp) 271 [eT na Q3 o t,eT nb Qg o s]=some (.AY [eT na n o (PK o.length false t s),.i .i64 0]):=by
 obtain⟨n,h1,h2⟩:=v272 false na Q3 nb Qg o _ _ _ _ t s (VW ho h7 wt) (VW ho h7 ws) h7 hn Rp;exact⟨n,h1,v271 h2⟩
theorem orT(na Q3 nb Qg:Bool)(o:List Row)(t s:T)(ho:CW o)(h7:o.length<=8)(wt:Wf o.length t)(ws:Wf o.length s)(hn:TQ na o)(Rp:TQ nb o) :
  ∃n:Bool,(n=true->post (PK o.length true t s) []=[])/\A0 (call dp) 198 [eT na Q3 o t,eT nb Qg o s]=some (.AY [eT na n o (PK o.length true t s),.i .i64 0]):=by
 obtain⟨n,h1,h2⟩:=v272 true na Q3 nb Qg o _ _ _ _ t s (VW ho h7 wt) (VW ho h7 ws) h7 hn Rp;exact⟨n,h1,v198 h2⟩
def swN(x:Nd):Nd:=(x.1,swp x.2.1,swp x.2.2)
open Classical in
theorem v323(nl B3:Bool)(ord:List Row)(ns:List Nd)(root:Int)(hn:nl=true->ord=[])(hb:Bd (ns.length+2))(YJ:Bd ord.length)(hv:VB ord ns root) :
  A0 (call dp) 323 [eB nl B3 ord ns root]=some (eB nl (decide (ns.length=0)) ord (ns.map swN) (swp root)):=by
 have e38:=v38 nl B3 ord ns root hn hb YJ;simp only[hv,decide_true,eB] at e38;have ez:=v365 root hv.2.2.1.2.1;apply i323 _ _ (by simp[A9]) (by simp);simp[s323,e38,v159 nl ord hn (by have:=hv.1.2;simp[AP];omega),ez,B8]
 have Q0:∀x,x∈ns->0<=x.2.1/\0<=x.2.2:=by intro x hx;obtain⟨k,hk⟩:=List.mem_iff_getElem?.1 hx;have:=(ko hk hv.2.2.1.1).2.1;exact⟨this.1.1,this.2.1⟩
 have h40:=hv.2.1
 let J:Nat->List D->A1->Prop:=fun q fr S=>∃k a23 o,k+q=ns.length/\AA S 1=some (.box [.sl 2 true [] .ro,.sl 3 true [] .ro,.i .i64 0]) /\
  AA S 2=some (.box [AN nl ord,.sl 3 (decide (k=0)) (((ns.take k).map swN).map C5) o,.i .i64 (swp root)])/\Mj S (decide (k=0)) k o /\
  fr=B0 44 [(2,.bx 1 0),(3,.fn 365 []),(4,.bx 2 0),(20,Cm B3 ns),(21,.i .i64 ns.length),(22,.i .i64 k),(23,a23)]
 refine AW J ?_ ns.length _ _ ⟨0,_,.ro,by simp,rfl,rfl,.inl ⟨rfl,rfl,rfl⟩,rfl⟩;rintro q fr S ⟨k,a23,o,hk,h1,h2,hl,rfl⟩;rw[<-Ay,e323_0];simp[tp];by_cases YN:k<ns.length
 .obtain⟨x,hx⟩:∃x,ns[k]? = some x:=⟨_,gA (by omega)⟩
  have hp:=Q0 x (gC hx);have l2:=AJ h2;simp[YN,LN _ hx,h2,show ¬2=S.length by omega,v365 _ hp.1,v365 _ hp.2,B8];rw[show[D.i .i64 x.1,.i .i64 (swp x.2.1),.i .i64 (swp x.2.2)]=C5 (swN x) from rfl];have hlen:(((ns.take k).map swN).map C5).length=k:=by simp;omega
  have h1':AA (B9.box (C5 x)::S) 1=_:=AM h1;have h2':AA (B9.box (C5 x)::S) 2=_:=AM h2;obtain⟨t,S',q4,l4,p4,m4,z4⟩:=LR (k:=3) (n':=false) (xs:=((ns.take k).map swN).map C5) (ys:=[C5 (swN x)]) (o':=.ro) (S:=B9.box (C5 x)::S) (by rw[hlen];exact hl.push _) (by rw[hlen];simp[AP];omega) (by simp);have g1:=p4 _ _ h1';have g2:=p4 _ _ h2';simp at q4;simp[q4,g2,Bz (show Bd k by unfold Bd;omega)];refine⟨q-1,by omega,k+1,_,.tok t,by omega,(AB _ (by omega)).trans g1,?_,.inr ⟨by simp,t,rfl,(AB _ (by rintro rfl;rw[g2] at l4;cases l4)).trans l4⟩,rfl⟩;rw[AR _ (AJ g2),BV hx];simp
 .have Qy:k=ns.length:=by omega
  subst Qy;simp at h2;simp[AAX,iL,h1,h2];rw[AR _ (AJ h1)];simp;rw[<-map_map];rfl
theorem Ul(nl B3:Bool)(o:List Row)(t:T)(ho:CW o)(h7:o.length<=8)(w:Wf o.length t)(hn:TQ nl o) :
  ∃n:Bool,(n=true->post (Ck t) []=[])/\A0 (call dp) 323 [eT nl B3 o t]=some (eT nl n o (Ck t)):=by
 have hs:=small h7 w;have e:=v323 nl B3 o (CH (post t [])) (code (post t []) t) hn (by rw[BU];unfold Bd;omega) (by unfold Bd;omega) (kN.2 ⟨t,VW ho h7 w⟩);have hp:=SL t [];simp only[map_nil] at hp;refine⟨decide ((CH (post t [])).length=0),?_,e.trans ?_⟩
 .simp only[decide_eq_true_eq,BU,hp];intro h;rw[List.length_eq_zero_iff.1 h];rfl
 .have h1:(CH (post t [])).map swN=CH (post (Ck t) []):=by rw[hp];exact(nds_not (El (post_nil t).1)).symm
  have h2:swp (code (post t []) t)=code (post (Ck t) []) (Ck t):=by rw[hp];exact(aS _ t).symm
  rw[h1,h2];rfl
section
open Go BT
set_option maxRecDepth 20000
theorem TM{r:Row}:∀{l:List Row},0<=HX r l<->r∈l
 |[]=>by simp[HX]
 |x::l=>by
  have ih:=TM (r:=r) (l:=l);simp only[HX,mem_cons];split
  .rename_i h;simp[h]
  .rename_i h;have hx:¬r=x:=fun e=>h e.symm;simp only[hx,false_or,<-ih];split<;>omega
theorem v48u(nl:Bool)(l:List Row)(r:Row)(hb:Bd l.length):A0 (call dp) 48 [AN nl l,.agg (Ar r)]=some (.b (decide (r∈l))):=by
 apply i48 _ _ _ (by simp[A9]) rfl;have e:=v100i nl l r hb;have:decide (r∈l)=decide (0<=HX r l):=by rw[decide_eq_decide,TM]
 rw[this];simp[-Oi,s48,e]
end
section
variable {Z:Type}(v:Z->List Row)
def Mz(p:Vl × Z):List Row:=v p.2
def Ej(f:Fc Z):List Row:=(if f.kind=0 then[f.row] else[])++(f.args.flatMap v++f.items.flatMap (Mz v))
def JC(t:Tm Z):List Row:=t.fs.flatMap (Ej v)
def Kv(x:An Z):List Row:=x.ts.flatMap (JC v)
end
def CV:(n:Nat)->Eu n->List Row
 |0,x=>nomatch x
 |n+1,x=>Kv (CV n) x
def K6{Z β:Type}(f:Z->List β)(l:List Z)(k:Nat):List β:=(l.take k).flatMap f
theorem Eb{Z β:Type}(f:Z->List β){l:List Z}{k:Nat}{x:Z}(h:l[k]? = some x):K6 f l (k+1)=K6 f l k++f x:=by simp only[K6];rw[BV h];simp
theorem HR{Z β:Type}(f:Z->List β){l:List Z}{k:Nat}(h:l.length<=k):K6 f l k=l.flatMap f:=by rw[K6,take_of_length_le h]
theorem HN{Z β:Type}(f:Z->List β){l:List Z}{k:Nat}{x:Z}(h:l[k]? = some x):(K6 f l k).length+(f x).length<=(l.flatMap f).length:=by
 have h1:l.flatMap f=K6 f l (k+1)++(l.drop (k+1)).flatMap f:=by rw[K6,<-List.flatMap_append,List.take_append_drop]
 rw[h1,Eb f h];simp only[length_append];omega
def JL(S:A1)(ob:Nat)(L:List Row):Prop:=∃nl o,AA S ob=some (.box [.sl 2 nl (L.map Ar) o])/\Mj S nl L.length o
def G9(ob:Nat)(S S':A1):Prop:=S.length<=S'.length/\∀id cs,id≠ob->AA S id=some (.box cs)->AA S' id=some (.box cs)
theorem G9.refl(ob:Nat)(S:A1):G9 ob S S:=⟨le_refl _,fun _ _ _ h=>h⟩
theorem G9.trans{ob:Nat}{S S' OJ:A1}(h:G9 ob S S')(k:G9 ob S' OJ):G9 ob S OJ:=⟨le_trans h.1 k.1,fun id cs q e=>k.2 id cs q (h.2 id cs q e)⟩
theorem G9.push(ob:Nat)(e:B9)(S:A1):G9 ob S (e::S):=⟨by simp,fun _ _ _ h=>AM h⟩
theorem JL.push{S:A1}{ob:Nat}{L:List Row}(e:B9)(h:JL S ob L):JL (e::S) ob L:=by obtain⟨nl,o,h1,h2⟩:=h;exact⟨nl,o,AM h1,h2.push e⟩
theorem JL.lt{S:A1}{ob:Nat}{L:List Row}(h:JL S ob L):ob<S.length:=by obtain⟨nl,o,h1,_⟩:=h;exact AJ h1
@[simp] theorem FinK_ret0(Post:D->A1->Prop)(fr:List D)(S:A1):Aw [] Post .ret fr S=Post (.AY []) S:=(rfl)
section
variable {Z:Type}{e:Z->D}
theorem v127(he:GE e)(f:Fc Z){S:A1}{ob:Nat}{L:List Row}(h:JL S ob L)(hl:L.length<=60000) :
  ∃r S',call dp 127 [.agg (GZ e f),.bx ob 0] S=some (r,S')/\JL S' ob (L++(if f.kind=0 then[f.row] else[]))/\G9 ob S S':=by
 refine f127 _ _ _ (fun r S'=>JL S' ob (L++(if f.kind=0 then[f.row] else[]))/\G9 ob S S') ?_;have Ap:=h.lt;simp[s127,jn];split
 .rename_i h0;obtain⟨nl,o,h1,h2⟩:=h;have hpush:AA (B9.box (GZ e f)::S) ob=_:=AM h1;obtain⟨t,S',q1,q2,q3,q4,q5,q6,q7⟩:=LR (k:=2) (n':=false) (xs:=L.map Ar) (ys:=[Ar f.row]) (o':=.ro) (S:=B9.box (GZ e f)::S) (by simpa using h2.push _) (by simp[AP];omega) (by simp);have hob:=q3 _ _ hpush;have CF:¬ob=S.length:=by omega
  simp[CF,h1,q1,hob];have htne:t≠ob:=by rw[q6];simp;omega
  refine⟨⟨false,.tok t,?_,.inr ⟨rfl,t,rfl,?_⟩⟩,?_⟩
  .rw[AR _ (AJ hob)];simp
  .rw[AB _ htne];exact q2
  .refine⟨by rw[BR,q5];simp;omega,fun id cs hid U3=>?_⟩;rw[AB _ hid];exact q3 _ _ (AM U3)
 .simp;exact⟨h.push _,G9.push _ _ _⟩
variable {v:Z->List Row}{ok:Z->Prop}
def EvsO(e:Z->D)(ok:Z->Prop)(v:Z->List Row):Prop:=∀a ob L S,ok a->JL S ob L->L.length+(v a).length<=60000->∃r S',call dp 126 [e a,.fn 127 [.bx ob 0]] S=some (r,S')/\JL S' ob (L++v a)/\G9 ob S S'
set_option maxHeartbeats 1000000 in
theorem v126s(he:GE e)(H:EvsO e ok v):EvsO (CL e) (Hd ok) (Kv v):=by
 intro x ob L S0 hx oQ hlen;have U5:=hx.len;refine f126 _ _ _ (fun r S'=>JL S' ob (L++Kv v x)/\G9 ob S0 S') ?_;simp[s126]
 let J:Nat->List D->A1->Prop:=fun q fr S=>∃k b7 b15 b19 b20 b21 b22 b31 b32 b33 b34 b43 b44 b45 b46,fr=B0 56 [(1,.fn 127 [.bx ob 0]),(7,b7),(12,CL e x),(13,.i .i64 x.ts.length),(14,.i .i64 (k:Nat)),(15,b15),(19,b19),(20,b20),(21,b21),(22,b22),(31,b31),(32,b32),(33,b33),(34,b34),(43,b43),(44,b44),(45,b45),(46,b46)]/\k+q=x.ts.length/\JL S ob (L++K6 (JC v) x.ts k)/\G9 ob S0 S
 refine AW J ?_ x.ts.length _ _ ⟨0,_,_,_,_,_,_,_,_,_,_,_,_,_,_,rfl,by simp,by simpa[K6] using oQ,G9.refl _ _⟩;intro q fr S hJ;obtain⟨k,b7,b15,b19,b20,b21,b22,b31,b32,b33,b34,b43,b44,b45,b46,C7,hk,ho,hp⟩:=hJ;rw[C7];rw[<-Ay,e126_3];simp[wO];split
 .rename_i h;obtain⟨t,ht⟩:=AZ (l:=x.ts) (k:=k) (by omega);have Lp:=hx.ts t (gC ht);have htl:=Lp.len;have hz:=HN (JC v) ht;have hz':(x.ts.flatMap (JC v)).length=(Kv v x).length:=rfl;simp[Bn e _ ht];obtain⟨L2,hL2⟩:∃L2,L2=L++K6 (JC v) x.ts k:=⟨_,rfl⟩
  have hL2l:L2.length=L.length+(K6 (JC v) x.ts k).length:=by rw[hL2];simp
  rw[<-hL2] at ho
  let J2:Nat->List D->A1->Prop:=fun q fr S=>∃i b7 b15 b22 b31 b32 b33 b34 b43 b44 b45 b46,fr=B0 56 [(1,.fn 127 [.bx ob 0]),(7,b7),(12,CL e x),(13,.i .i64 x.ts.length),(14,.i .i64 (k:Nat)),(15,b15),(19,BI e t.nl t.fs),(20,.i .i64 t.fs.length),(21,.i .i64 (i:Nat)),(22,b22),(31,b31),(32,b32),(33,b33),(34,b34),(43,b43),(44,b44),(45,b45),(46,b46)]/\i+q=t.fs.length/\JL S ob (L2++K6 (Ej v) t.fs i)/\G9 ob S0 S
  refine AW J2 ?_ t.fs.length _ _ ⟨0,_,_,_,_,_,_,_,_,_,_,_,rfl,by simp,by simpa[K6] using ho.push _,hp.trans (G9.push _ _ _)⟩;intro q2 fr S hJ;obtain⟨i,b7,b15,b22,b31,b32,b33,b34,b43,b44,b45,b46,C7,hi,ho2,hp2⟩:=hJ;rw[C7];rw[<-Ay,e126_2];simp[qf];split
  .rename_i h2;obtain⟨f,hf⟩:=AZ (l:=t.fs) (k:=i) (by omega);have KB:=Lp.fs f (gC hf);have hal:=KB.OG;have pI:=KB.NH;have hz2:=HN (Ej v) hf;have hz2':(t.fs.flatMap (Ej v)).length=(JC v t).length:=rfl;obtain⟨K0,xp⟩:∃K0:List Row,K0=if f.kind=0 then[f.row] else[]:=⟨_,rfl⟩
   have hz3:(Ej v f).length=K0.length+((f.args.flatMap v).length+(f.items.flatMap (Mz v)).length):=by rw[Ej,<-xp];simp
   obtain⟨id,hid⟩:∃id,id=S.length:=⟨_,rfl⟩
   obtain⟨r,S1,c1,o1,p1⟩:=v127 he f (ho2.push (B9.box (EF e f))) (by simp only[length_append];omega);rw[<-xp] at o1;have hob:=ho2.lt;have YR:AA S1 id=some (.box (EF e f)):=p1.2 _ _ (by omega) (by rw[hid];exact Aj _ _);simp[Aq e _ hf,c1];rw[<-hid];simp[YR];obtain⟨L3,hL3⟩:∃L3,L3=L2++K6 (Ej v) t.fs i++K0:=⟨_,rfl⟩
   have hL3l:L3.length=L2.length+(K6 (Ej v) t.fs i).length+K0.length:=by rw[hL3];simp only[length_append]
   rw[<-hL3] at o1
   let J3:Nat->List D->A1->Prop:=fun q fr S=>∃j b15 b22 b34 b43 b44 b45 b46,fr=B0 56 [(1,.fn 127 [.bx ob 0]),(7,.bx id 0),(12,CL e x),(13,.i .i64 x.ts.length),(14,.i .i64 (k:Nat)),(15,b15),(19,BI e t.nl t.fs),(20,.i .i64 t.fs.length),(21,.i .i64 (i:Nat)),(22,b22),(31,Bl e f.NG f.args),(32,.i .i64 f.args.length),(33,.i .i64 (j:Nat)),(34,b34),(43,b43),(44,b44),(45,b45),(46,b46)]/\j+q=f.args.length/\JL S ob (L3++K6 v f.args j)/\G9 ob S0 S/\AA S id=some (.box (EF e f))
   refine AW J3 ?_ f.args.length _ _ ⟨0,_,_,_,_,_,_,_,rfl,by simp,by simpa[K6] using o1,(hp2.trans (G9.push _ _ _)).trans p1,YR⟩;intro q3 fr S hJ;obtain⟨j,b15,b22,b34,b43,b44,b45,b46,C7,hj,ho3,hp3,hS⟩:=hJ;rw[C7];rw[<-Ay,e126_1];simp[uE];split
   .rename_i h3;obtain⟨a,ha⟩:=AZ (l:=f.args) (k:=j) (by omega);have hz4:=HN v ha;obtain⟨r,S2,c2,o2,p2⟩:=H a ob _ S (KB.args a (gC ha)) ho3 (by simp only[length_append];omega);simp[Bq e _ ha,c2];rw[Br (k:=j) h3 KB.OG];have hob3:=ho3.lt;exact⟨q3-1,by omega,⟨j+1,_,_,_,_,_,_,_,rfl,by omega,by rw[Eb _ ha,<-append_assoc];exact o2,hp3.trans p2,p2.2 _ _ (by rintro rfl;obtain⟨_,_,od,_⟩:=ho3;rw[hS] at od;injection od with od;injection od with od;simp[EF] at od) hS⟩⟩
   .have fk:=HR v (show f.args.length<=j by omega);rw[fk] at ho3;simp[e126_r0,iA,hS];obtain⟨L4,hL4⟩:∃L4,L4=L3++f.args.flatMap v:=⟨_,rfl⟩
    have hL4l:L4.length=L3.length+(f.args.flatMap v).length:=by rw[hL4];simp only[length_append]
    rw[<-hL4] at ho3
    let J4:Nat->List D->A1->Prop:=fun q fr S=>∃j b7 b15 b22 b31 b32 b33 b34 b46,fr=B0 56 [(1,.fn 127 [.bx ob 0]),(7,b7),(12,CL e x),(13,.i .i64 x.ts.length),(14,.i .i64 (k:Nat)),(15,b15),(19,BI e t.nl t.fs),(20,.i .i64 t.fs.length),(21,.i .i64 (i:Nat)),(22,b22),(31,b31),(32,b32),(33,b33),(34,b34),(43,B6 e f.inl f.items),(44,.i .i64 f.items.length),(45,.i .i64 (j:Nat)),(46,b46)]/\j+q=f.items.length/\JL S ob (L4++K6 (Mz v) f.items j)/\G9 ob S0 S
    refine AW J4 ?_ f.items.length _ _ ⟨0,_,_,_,_,_,_,_,_,rfl,by simp,by simpa[K6] using ho3,hp3⟩;intro q4 fr S hJ;obtain⟨j,b7,b15,b22,b31,b32,b33,b34,b46,C7,hj,ho4,hp4⟩:=hJ;rw[C7];rw[<-Ay,e126_0];simp[uZ];split
    .rename_i h4;obtain⟨p,hp⟩:=AZ (l:=f.items) (k:=j) (by omega);have hz5:=HN (Mz v) hp;have hz5':(Mz v p).length=(v p.2).length:=rfl;obtain⟨r,S2,c2,o2,p2⟩:=H p.2 ob _ (B9.box (Gw e p)::S) (KB.items p (gC hp)).2 (ho4.push _) (by simp only[length_append];omega);simp[Bw e _ hp,Cs e he,c2];rw[Br (k:=j) h4 KB.NH];exact⟨q4-1,by omega,⟨j+1,_,_,_,_,_,_,_,_,rfl,by omega,by rw[Eb _ hp,<-append_assoc];exact o2,(hp4.trans (G9.push _ _ _)).trans p2⟩⟩
    .have fk:=HR (Mz v) (show f.items.length<=j by omega);rw[fk] at ho4;simp[e126_r1,kj];rw[Br (k:=i) h2 Lp.len];refine⟨q2-1,by omega,⟨i+1,_,_,_,_,_,_,_,_,_,_,_,rfl,by omega,?_,hp4⟩⟩;rw[Eb _ hf,Ej,<-xp];rw[hL4,hL3] at ho4;simpa only[append_assoc] using ho4
  .have fk:=HR (Ej v) (show t.fs.length<=i by omega);rw[fk] at ho2;simp[zJ,kD];rw[Br (k:=k) h hx.len];refine⟨q-1,by omega,⟨k+1,_,_,_,_,_,_,_,_,_,_,_,_,_,_,rfl,by omega,?_,hp2⟩⟩;rw[Eb _ ht,<-append_assoc,<-hL2];exact ho2
 .have fk:=HR (JC v) (show x.ts.length<=k by omega);rw[fk] at ho;exact⟨ho,hp⟩
end
theorem v126:∀n,EvsO (As n) (Bf n) (CV n)
 |0=>fun x=>nomatch x
 |n+1=>v126s (Az n) (v126 n)
theorem MG{Z β:Type}{f:Z->List β}{g:Z->Nat}:∀{l:List Z},(∀x,x∈l->(f x).length<=g x)->(l.flatMap f).length<=(l.map g).sum
 |[],_=>le_refl _
 |x::l,h=>by have:=MG (l:=l) fun y hy=>h y (by simp[hy]);have:=h x (by simp);simp only[List.flatMap_cons,length_append,map_cons,sum_cons];omega
section
variable {Z:Type}{v:Z->List Row}{w:Z->Nat}
theorem vaFc_le(h:∀a,(v a).length<=w a)(f:Fc Z):(Ej v f).length<=1+Kw w f:=by
 have h1:=MG (l:=f.args) (f:=v) (g:=w) fun x _=>h x;have h2:=MG (l:=f.items) (f:=Mz v) (g:=jS w) fun x _=>by have:=h x.2;simp only[Mz,jS];omega
 have h3:(if f.kind=0 then[f.row] else[]).length<=1:=by split<;>simp
 simp only[Ej,length_append,Kw];omega
theorem vaTm_le(h:∀a,(v a).length<=w a)(t:Tm Z):(JC v t).length<=Hn w t:=by have h1:=MG (l:=t.fs) (f:=Ej v) (g:=fun f=>1+Kw w f) fun x _=>vaFc_le h x;rw[gV] at h1;simp only[JC,Hn];omega
theorem zU(h:∀a,(v a).length<=w a)(x:An Z):(Kv v x).length<=Sy w x:=MG fun t _=>vaTm_le h t
end
theorem TI:∀n x,(CV n x).length<=CD n x
 |0,x=>nomatch x
 |n+1,x=>zU (TI n) x
theorem nj{s:List Row}(h:Asc s):s.Nodup:=List.Pairwise.imp (fun{a b} oX e=>by subst e;simp[Jz,nJ,CR] at oX) h
theorem v68n(x:SA)(hx:Qc x)(hw:wS x<=50000):∃s nl,A0 (call dp) 68 [eS x]=some (AN nl s)/\(∀r,r∈s<->r∈CV x.1 x.2)/\s.length<=1000000/\s.Nodup/\(nl=true->s=[]):=by
 have hl:=TI x.1 x.2;have ab:(CV x.1 x.2).length<=50000:=le_trans hl hw
 suffices hh:∃d,A0 (call dp) 68 [eS x]=some d/\∃s nl,d=AN nl s/\(∀r,r∈s<->r∈CV x.1 x.2)/\s.length<=1000000/\s.Nodup/\(nl=true->s=[]) by obtain⟨d,h1,s,nl,rfl,h2⟩:=hh;exact⟨s,nl,h1,h2⟩
 apply j68 _ _ (by simp[A9,(Az _).AG,Ke.AG,Ke.strip]) (by rintro d ⟨s,nl,rfl,_⟩;simp);have OE:strip (eS x)=eS x:=Ke.strip x;simp only[s68,OE,HY];obtain⟨r,S',c1,⟨nl,o,o1,o2⟩,p1⟩:=v126 x.1 x.2 0 [] [B9.box [.sl 2 true [] .ro]] hx ⟨true,.ro,rfl,.inl ⟨rfl,rfl,rfl⟩⟩ (by simp;omega);have c1:call dp 126 [eS x,.fn 127 [.bx 0 0]] [B9.box [.sl 2 true [] .ro]]=some (r,S'):=c1
 have hnl:nl=true->([]++CV x.1 x.2)=[]:=by
  rcases o2 with⟨_,h,_⟩|⟨h,_⟩
  .intro _;exact List.length_eq_zero_iff.1 h
  .rw[h];intro h;cases h
 obtain⟨s,B3,e128,hs,hm,Rp⟩:=v128 nl ([]++CV x.1 x.2) hnl (by simp;omega)
 have e128':A0 (call dp) 128 [.sl 2 nl (([]++CV x.1 x.2).map Ar) o]=some (AN B3 s):=by rw[Ci];exact e128
 simp only[length_nil,c1,A5,GH,o1,K2,LW,List.getElem?_cons_zero,e128'];refine⟨s,B3,rfl,fun r=>by rw[hm];simp,?_⟩;have UZ:s.Nodup:=nj hs;have:=Ku (M:=s) (L:=CV x.1 x.2) UZ (fun r hr=>by have:=(hm r).1 hr;simpa using this);exact⟨by omega,UZ,Rp⟩
theorem v68(x:SA)(hx:Qc x)(hw:wS x<=50000):∃s nl,A0 (call dp) 68 [eS x]=some (AN nl s)/\(∀r,r∈s<->r∈CV x.1 x.2)/\s.length<=1000000:=by obtain⟨s,nl,h1,h2,h3,_⟩:=v68n x hx hw;exact⟨s,nl,h1,h2,h3⟩
theorem v124{S:A1}{ib:Nat}{nl:Bool}{ord:List Row}(r:Row)(hb:Bd ord.length)(h:AA S ib=some (.box [AN nl ord])) :
  ∃d S',call dp 124 [.agg (Ar r),.bx ib 0] S=some (d,S')/\d=.b (!decide (r∈ord))/\S'=.box (Ar r)::S:=by
 refine f124 _ _ _ (fun d S'=>d=.b (!decide (r∈ord))/\S'=.box (Ar r)::S) ?_;have:=AJ h;have e:=v48u nl ord r hb;simp[-Oi,s124,h,show ¬ib=S.length by omega,e]
theorem v194(nl:Bool)(l:List Row)(hb:Bd l.length){S0:A1}{ib:Nat}{B3:Bool}{ord:List Row}(hbo:Bd ord.length)(p:Row->Bool)(hp:p=fun r=>!decide (r∈ord))(h:AA S0 ib=some (.box [AN B3 ord])) :
  ∃r S',call dp 194 [AN nl l,.fn 124 [.bx ib 0]] S0=some (r,S')/\(∃n:Int,r=.i .i64 n/\decide (0<=n)=l.any p)/\Gi S0 S':=by
 refine f194 _ _ _ (fun r S'=>(∃n:Int,r=.i .i64 n/\decide (0<=n)=l.any p)/\Gi S0 S') ?_;simp[s194]
 let J:Nat->List D->A1->Prop:=fun q fr S=>∃k b4 b9,fr=B0 19 [(0,AN nl l),(1,.fn 124 [.bx ib 0]),(4,b4),(7,.i .i64 l.length),(8,.i .i64 (k:Nat)),(9,b9)]/\k+q=l.length/\l.any p=(l.drop k).any p/\Gi S0 S
 refine AW J ?_ l.length _ _ ⟨0,_,_,rfl,by simp,by simp,Gi.refl _⟩;intro q fr S hJ;obtain⟨k,b4,b9,C7,hk,hc,hP⟩:=hJ;rw[C7];rw[<-Ay,e194_0];simp[qk];split
 .rename_i Qy;obtain⟨x,hx⟩:=AZ (l:=l) (k:=k) (by omega);obtain⟨r,S',c1,rfl,rfl⟩:=v124 x hbo (hP _ _ h);have xS:p x=!decide (x∈ord):=by rw[hp]
  rw[BG hx,List.any_cons] at hc;rw[<-xS] at c1;simp[Ee _ hx,c1];split<;>rename_i hpx'
  .simp only[hpx',Bool.true_or] at hc;have:=List.any_eq_true.1 hc;exact⟨by simpa using this,hP.trans (Gi.push _ _)⟩
  .simp only[hpx',Bool.false_or] at hc;rw[Bz (k:=k) (hb.lt (Nat.le_of_lt Qy))];exact⟨q-1,by omega,⟨k+1,_,_,rfl,by omega,hc,hP.trans (Gi.push _ _)⟩⟩
 .rw[List.drop_eq_nil_of_le (show l.length<=k by omega)] at hc;simp[AA6,gw];exact⟨by simpa using hc,hP⟩
theorem v123(nl:Bool)(l:List Row)(hb:Bd l.length){S0:A1}{ib:Nat}{B3:Bool}{ord:List Row}(hbo:Bd ord.length)(h:AA S0 ib=some (.box [AN B3 ord])) :
  ∃S',call dp 123 [AN nl l,.fn 124 [.bx ib 0]] S0=some (.b (l.any fun r=>!decide (r∈ord)),S')/\Gi S0 S':=by
 obtain⟨r,S',c,⟨n,rfl,hn⟩,hp⟩:=v194 nl l hb hbo _ rfl h
 obtain⟨d,OJ,c2,rfl,h2⟩:=f123 (AN nl l) (.fn 124 [.bx ib 0]) S0 (fun d S'=>d=.b (l.any fun r=>!decide (r∈ord))/\Gi S0 S') (by
  simp only[s123,c,A5,Ek,hn]
  exact⟨trivial,hp⟩)
 exact⟨OJ,c2,h2⟩
section
open Go BT
noncomputable def PS(N:Int)(t:T):Option T:=if N<((post t []).length:Int) then none else some t
section
variable {Z:Type}(b:Z->Option T)(ord:List Row)(N:Int)
noncomputable def atL(kind:Int)(t:T):List Z->Option T
 |[]=>none
 |c::_=>match b c with
  |none=>none
  |some s=>PS N (PK ord.length false t (Ck s))
noncomputable def atK(kind:Int):List Z->Option T
 |[]=>none
 |a::l=>match b a with
  |none=>none
  |some t=>if kind=2 then some t else if kind=3 then some (Ck t) else atL b ord N kind t l
noncomputable def atT(f:Fc Z):Option T:=if f.kind=0 then some (nD (HX f.row ord).toNat) else atK b ord N f.kind f.args
noncomputable def lz:T->List (Fc Z)->Option T
 |acc,[]=>some acc
 |acc,f::l=>match atT b ord N f with
  |none=>none
  |some x=>match PS N (PK ord.length false acc x) with
   |none=>none
   |some a=>lz a l
noncomputable def anL:T->List (Tm Z)->Option T
 |acc,[]=>some acc
 |acc,t::l=>match lz b ord N (.leaf true) t.fs with
  |none=>none
  |some x=>match PS N (PK ord.length true acc x) with
   |none=>none
   |some a=>anL a l
noncomputable def tq(x:An Z):Option T:=anL b ord N (.leaf false) x.ts
def wY(g:Z->Prop)(f:Fc Z):Prop:=(f.kind=0/\f.row∈ord)\/(f.kind≠0/\∃a l,f.args=a::l/\g a/\(f.kind=2\/f.kind=3\/∃c l',l=c::l'/\g c))
def gdTm(g:Z->Prop)(t:Tm Z):Prop:=Bi t.fs.length/\∀f,f∈t.fs->wY ord g f
def gdAn(g:Z->Prop)(x:An Z):Prop:=Bi x.ts.length/\∀t,t∈x.ts->gdTm ord g t
end
noncomputable def VJ(ord:List Row)(N:Int):(n:Nat)->Eu n->Option T
 |0,x=>nomatch x
 |n+1,x=>tq (VJ ord N n) ord N x
def gS(ord:List Row):(n:Nat)->Eu n->Prop
 |0,x=>nomatch x
 |n+1,x=>gdAn ord (gS ord n) x
noncomputable def cT(nl m:Bool)(ord:List Row)(t:T):List D:=[AN nl ord,Cm m (CH (post t [])),.i .i64 (code (post t []) t)]
section
variable (nl m:Bool)(ord:List Row)(t:T)
@[simp] theorem cellsK_eT:Am 3 true (eT nl m ord t)=some (cT nl m ord t):=(rfl)
@[simp] theorem rdK_cT:MM (cT nl m ord t) 0 3 true=some (eT nl m ord t):=(rfl)
@[simp high] theorem cT_1:(cT nl m ord t)[1]? = some (Cm m (CH (post t []))):=(rfl)
@[simp] theorem splice_cT(a b c:D):Ai [a,b,c] 0 (cT nl m ord t)=cT nl m ord t:=(rfl)
@[simp] theorem splice_cT'(m':Bool)(s:T):Ai (cT nl m ord t) 0 (cT nl m' ord s)=cT nl m' ord s:=(rfl)
@[simp] theorem cT_len:(cT nl m ord t).length=3:=(rfl)
@[simp] theorem noRef_eT:AG (eT nl m ord t)=true:=by simp[eT]
@[simp] theorem strip_eT:strip (eT nl m ord t)=eT nl m ord t:=(rfl)
end
@[simp] theorem cellsK_zB:Am 3 true zB=some [.sl 2 true [] .ro,.sl 3 true [] .ro,.i .i64 0]:=(rfl)
@[simp] theorem strip_zB:strip zB=zB:=(rfl)
@[simp] theorem noRef_zB:AG zB=true:=by simp[zB]
theorem Gt:D.agg [.sl 2 true [] .ro,.sl 3 true [] .ro,.i .i64 0]=zB:=rfl
@[simp] theorem FinK_cell2(n k:Nat)(g:Bool)(j:Nat)(Post:D->A1->Prop)(fr:List D)(S:A1):Aw [.cell n k g,.t j] Post .ret fr S=OX (CE S k g (Ah fr n)) fun d=>Post (.AY [d,Ah fr j]) S:=(rfl)
theorem HF:B8 [.sl 2 true [] .ro,.sl 3 true [] .ro,.i .i64 0] []=some [.sl 2 true [] .ro,.sl 3 true [] .ro,.i .i64 0]:=rfl
def RD(nl:Bool)(ord:List Row)(o:Option T)(d:D):Prop:=match o with
 |none=>d=.AY [zB,.i .i64 6]
 |some t=>Wf ord.length t/\∃m,d=.AY [eT nl m ord t,.i .i64 0]
@[simp] theorem RD_err(nl:Bool)(ord:List Row):RD nl ord none (.AY [zB,.i .i64 6])=True:=by simp[RD]
theorem Sm{nl m:Bool}{ord:List Row}{t:T}(w:Wf ord.length t):RD nl ord (some t) (.AY [eT nl m ord t,.i .i64 0]):=⟨w,m,rfl⟩
theorem RD.AG{nl:Bool}{ord:List Row}{o:Option T}{d:D}(h:RD nl ord o d):AG d=true:=by
 cases o with
 |none=>simp only[RD] at h;subst h;simp[DE.AG,A9]
 |some t=>obtain⟨_,m,rfl⟩:=h;simp[DE.AG,A9]
def NX(nl:Bool)(ord:List Row)(N:Int):D:=.agg [AN nl ord,.i .i64 N]
@[simp] theorem strip_eBu(nl:Bool)(ord:List Row)(N:Int):strip (NX nl ord N)=NX nl ord N:=(rfl)
@[simp] theorem noRef_eBu(nl:Bool)(ord:List Row)(N:Int):AG (NX nl ord N)=true:=by simp[NX,DE.AG,A9]
theorem v197(nl m:Bool)(ord:List Row)(N:Int)(t:T)(hs:(post t []).length<=4096):A0 (call dp) 197 [NX nl ord N,eT nl m ord t,.i .i64 0]=some (match PS N t with|none=>.AY [zB,.i .i64 6]|some t=>.AY [eT nl m ord t,.i .i64 0]):=by
 apply i197 _ _ _ _ (by simp[A9]) (by unfold PS;split<;>simp[DE.AG,A9]);have OE:strip (NX nl ord N)=NX nl ord N:=rfl;rw[OE];simp[s197,NX,BU,PS];split
 .simp[HF,Gt]
 .simp
variable {nl:Bool}{ord:List Row}{N:Int}
def uQ{Z:Type}(nl:Bool)(ord:List Row)(N:Int)(e:Z->D)(g:Z->Prop)(b:Z->Option T):Prop:=∀a,g a->∃r,A0 (call dp) 125 [NX nl ord N,e a]=some r/\RD nl ord (b a) r
theorem MT{N:Int}{t s:T}(h:PS N t=some s):s=t:=by unfold PS at h;split at h;cases h;injection h with h;exact h.symm
theorem v270{Z:Type}{e:Z->D}{g:Z->Prop}{b:Z->Option T}(he:GE e)(ho:CW ord)(h7:ord.length<=8)(hn:TQ nl ord)(H:uQ nl ord N e g b)(f:Fc Z)(hf:wY ord g f) :
  ∃r,A0 (call dp) 270 [NX nl ord N,.agg (GZ e f)]=some r/\RD nl ord (atT b ord N f) r:=by
 apply j270 _ _ (RD nl ord (atT b ord N f)) (by simp[A9,Ec he]) (fun r h=>h.AG);have OE:strip (NX nl ord N)=NX nl ord N:=rfl;rw[OE,bD];have h66:∀a,g a->∃r,A0 (call dp) 125 [.agg [AN nl ord,.i .i64 N],e a]=some r/\RD nl ord (b a) r:=H;have h106:=fun m N t hs=>v197 nl m ord N t hs;simp only[NX] at h106;rcases hf with⟨k0,hr⟩|⟨k0,a,l,BE,hga,hk⟩
 .have pg:=v322 nl ord f.row hn (by unfold Bd;omega);have hix:=TM.2 hr;have Ap:=(kI f.row ord).1;simp only[show CW ord/\ord.length<=4096 from⟨ho,by omega⟩,if_true,show ¬HX f.row ord<0 by omega,if_false,and_self] at pg;obtain⟨i,hi⟩:∃i:Nat,HX f.row ord=i:=⟨(HX f.row ord).toNat,by omega⟩
  have hvT:eB nl false ord [((i:Int),0,1)] 2=eT nl false ord (nD i):=by simp[eT,nD,post,CH,nd,code,pos]
  rw[hi,hvT] at pg;simp[Yu,NX,k0,pg,atT,hi];exact Sm (jb (by omega))
 .obtain⟨r,c1,hr⟩:=h66 a hga;rw[atT,if_neg k0,BE,atK];cases hb:b a with
  |none=>
   rw[hb] at hr;simp only[RD] at hr;subst hr;simp[Yu,NX,k0,BE,c1,Gt]
  |some t=>
   rw[hb] at hr;obtain⟨wt,m,rfl⟩:=hr;simp only;by_cases k2:f.kind=2
   .simp[Yu,NX,k2,BE,c1];exact Sm wt
   .by_cases k3:f.kind=3
    .obtain⟨m',_,nG⟩:=Ul nl m ord t ho h7 wt hn;simp[Yu,NX,k3,BE,c1,nG];exact Sm (Ph wt)
    .rcases hk with hk|hk|⟨c,l',rfl,hgc⟩
     .exact absurd hk k2
     .exact absurd hk k3
     .obtain⟨r,c2,hr⟩:=h66 c hgc;rw[if_neg k2,if_neg k3,atL];cases hbc:b c with
      |none=>
       rw[hbc] at hr;simp only[RD] at hr;subst hr;simp[Yu,NX,k0,k2,k3,BE,c1,c2,Gt,HF]
      |some s=>
       rw[hbc] at hr;obtain⟨ws,m2,rfl⟩:=hr;obtain⟨m3,_,nG⟩:=Ul nl m2 ord s ho h7 ws hn;obtain⟨m4,_,cB⟩:=andT nl m nl m3 ord t (Ck s) ho h7 wt (Ph ws) hn hn;have wo:=Nc ord.length false t (Ck s);have Cw:=small h7 wo;have Jp:=h106 m4 N (PK ord.length false t (Ck s)) (by omega);simp only;cases hl:PS N (PK ord.length false t (Ck s)) with
       |none=>
        rw[hl] at Jp;simp[Yu,NX,k0,k2,k3,BE,c1,c2,nG,cB,Jp,Gt]
       |some u=>
        rw[hl] at Jp;have hu:=MT hl;subst hu;simp[Yu,NX,k0,k2,k3,BE,c1,c2,nG,cB,Jp];exact Sm wo
theorem v195T(nl:Bool)(ord:List Row)(c:Bool)(ho:CW ord)(h7:ord.length<=8)(hn:TQ nl ord):A0 (call dp) 195 [AN nl ord,.b c]=some (eT nl true ord (.leaf c)):=by have e:=v195 nl ord c hn (by unfold Bd;omega);rw[if_pos ⟨ho,by omega⟩] at e;rw[e];cases c<;>rfl
set_option maxHeartbeats 1000000 in
theorem v196{Z:Type}{e:Z->D}{g:Z->Prop}{b:Z->Option T}(he:GE e)(ho:CW ord)(h7:ord.length<=8)(hn:TQ nl ord)(H:uQ nl ord N e g b)(t:Tm Z)(ht:gdTm ord g t) :
  ∃r,A0 (call dp) 196 [NX nl ord N,.agg (Cj e t)]=some r/\RD nl ord (lz b ord N (.leaf true) t.fs) r:=by
 generalize hR:lz b ord N (.leaf true) t.fs=R;apply j196 _ _ (RD nl ord R) (by simp[A9,Jh he]) (fun r h=>h.AG);have OE:strip (NX nl ord N)=NX nl ord N:=rfl;rw[OE,cA];have KR:=ht.1;simp[s196,NX,v195T nl ord true ho h7 hn]
 let J:Nat->List D->A1->Prop:=fun q fr S=>∃k acc m z0 z1 z2 b5 b18,fr=B0 48 [(2,.bx 0 0),(4,.bx 2 0),(5,b5),(6,.bx 3 0),(15,BI e t.nl t.fs),(16,.i .i64 t.fs.length),(17,.i .i64 (k:Nat)),(18,b18)]/\k+q=t.fs.length/\lz b ord N (.leaf true) t.fs=lz b ord N acc (t.fs.drop k)/\Wf ord.length acc/\AA S 0=some (.box [AN nl ord,.i .i64 N])/\AA S 2=some (.box [z0,z1,z2])/\AA S 3=some (.box (cT nl m ord acc))
 refine AW J ?_ t.fs.length _ _ ⟨0,.leaf true,true,_,_,_,_,_,rfl,by simp,by simp,trivial,rfl,rfl,rfl⟩;intro q fr S hJ;obtain⟨k,acc,m,z0,z1,z2,b5,b18,C7,hk,hv,hw,YQ,YR,Qf⟩:=hJ;rw[C7];rw[hR] at hv;rw[<-Ay,e196_0];simp[qq];have n0:=AJ YQ;have n1:=AJ YR;have n2:=AJ Qf;split<;>rename_i h
 .obtain⟨f,hf⟩:=AZ (l:=t.fs) (k:=k) (by omega);obtain⟨r,c1,hr⟩:=v270 he ho h7 hn H f (ht.2 f (gC hf));simp only[NX] at c1;rw[BG hf,lz] at hv;have m0:¬0=S.length:=by omega
  have m2:¬2=S.length:=by omega
  have m3:¬3=S.length:=by omega
  have m0':¬0=S.length+1:=by omega
  have m2':¬2=S.length+1:=by omega
  have m3':¬3=S.length+1:=by omega
  have q0:∀e1 e2:B9,AA (e1::e2::S) 0=some (.box [AN nl ord,.i .i64 N]):=fun e1 e2=>AM (AM YQ);have q2:∀e1 e2:B9,AA (e1::e2::S) 2=some (.box [z0,z1,z2]):=fun e1 e2=>AM (AM YR);have q3:∀e1 e2:B9,AA (e1::e2::S) 3=some (.box (cT nl m ord acc)):=fun e1 e2=>AM (AM Qf);have qt:∀e1 e2:B9,AA (e1::e2::S) (S.length+1)=some e1:=fun e1 e2=>Aj e1 (e2::S);cases YM:atT b ord N f with
  |none=>
   rw[YM] at hr hv;simp only[RD] at hr;subst hr;simp only at hv;subst hv;simp[-BM,-Ca,Aq e _ hf,m0,q0,q2,q3,qt,AM YQ,c1,HF];rw[AR _ (AJ (q2 _ _))];simp[Gt]
  |some x=>
   rw[YM] at hr hv;obtain⟨wx,mx,rfl⟩:=hr;obtain⟨m4,_,cB⟩:=andT nl m nl mx ord acc x ho h7 hw wx hn hn;have wo:=Nc ord.length false acc x;have Cw:=small h7 wo;have Jp:=v197 nl m4 ord N (PK ord.length false acc x) (by omega);simp only[NX] at Jp;simp only at hv;cases hl:PS N (PK ord.length false acc x) with
   |none=>
    rw[hl] at Jp hv;simp only at hv Jp;subst hv;simp[-BM,-Ca,Aq e _ hf,m0,q0,q2,q3,qt,AM YQ,c1,HF,cB,Jp];have y2:∀(e1 e2 e3:B9),AA (sset (e1::e2::S) 3 e3) 2=some (.box [z0,z1,z2]):=fun e1 e2 e3=>by rw[AB _ (by omega)];exact q2 _ _
    simp[-BM,-Ca,y2];rw[AR _ (AJ (y2 _ _ _))];simp[Gt]
   |some u=>
    have hu:=MT hl;subst hu;rw[hl] at Jp hv;simp only at hv Jp;simp[-BM,-Ca,Aq e _ hf,m0,q0,q2,q3,qt,AM YQ,c1,HF,cB,Jp];rw[Br (k:=k) h KR];exact⟨q-1,by omega,⟨k+1,_,m4,z0,z1,z2,_,_,rfl,by omega,by rw[hR];exact hv,wo,by rw[AB _ (by omega)];exact q0 _ _,by rw[AB _ (by omega)];exact q2 _ _,AR _ (AJ (q3 _ _))⟩⟩
 .rw[List.drop_eq_nil_of_le (show t.fs.length<=k by omega),lz] at hv;subst hv;simp[zd,iO,YR,Qf];rw[AR _ n1];exact Sm hw
set_option maxHeartbeats 1000000 in
theorem v125s{Z:Type}{e:Z->D}{g:Z->Prop}{b:Z->Option T}(he:GE e)(ho:CW ord)(h7:ord.length<=8)(hn:TQ nl ord)(H:uQ nl ord N e g b):uQ nl ord N (CL e) (gdAn ord g) (tq b ord N):=by
 intro x hx;generalize hR:tq b ord N x=R;apply j125 _ _ (RD nl ord R) (by simp[A9,Bj he]) (fun r h=>h.AG);have OE:strip (NX nl ord N)=NX nl ord N:=rfl;rw[OE,Ma];have U5:=hx.1;simp[s125,NX,v195T nl ord false ho h7 hn]
 let J:Nat->List D->A1->Prop:=fun q fr S=>∃k acc m z0 z1 z2 b5 b17,fr=B0 46 [(2,.bx 0 0),(4,.bx 1 0),(5,b5),(6,.bx 2 0),(14,CL e x),(15,.i .i64 x.ts.length),(16,.i .i64 (k:Nat)),(17,b17)]/\k+q=x.ts.length/\tq b ord N x=anL b ord N acc (x.ts.drop k)/\Wf ord.length acc/\AA S 0=some (.box [AN nl ord,.i .i64 N])/\AA S 1=some (.box [z0,z1,z2])/\AA S 2=some (.box (cT nl m ord acc))
 refine AW J ?_ x.ts.length _ _ ⟨0,.leaf false,true,_,_,_,_,_,rfl,by simp,by simp[tq],trivial,rfl,rfl,rfl⟩;intro q fr S hJ;obtain⟨k,acc,m,z0,z1,z2,b5,b17,C7,hk,hv,hw,YQ,YR,Qf⟩:=hJ;rw[C7];rw[hR] at hv;rw[<-Ay,e125_0];simp[uW];have n0:=AJ YQ;have n1:=AJ YR;have n2:=AJ Qf;split<;>rename_i h
 .obtain⟨t,ht⟩:=AZ (l:=x.ts) (k:=k) (by omega);obtain⟨r,c1,hr⟩:=v196 he ho h7 hn H t (hx.2 t (gC ht));simp only[NX] at c1;rw[BG ht,anL] at hv;have q0:∀e1 e2:B9,AA (e1::e2::S) 0=some (.box [AN nl ord,.i .i64 N]):=fun e1 e2=>AM (AM YQ);have q2:∀e1 e2:B9,AA (e1::e2::S) 1=some (.box [z0,z1,z2]):=fun e1 e2=>AM (AM YR);have q3:∀e1 e2:B9,AA (e1::e2::S) 2=some (.box (cT nl m ord acc)):=fun e1 e2=>AM (AM Qf);have qt:∀e1 e2:B9,AA (e1::e2::S) (S.length+1)=some e1:=fun e1 e2=>Aj e1 (e2::S);cases YM:lz b ord N (.leaf true) t.fs with
  |none=>
   rw[YM] at hr hv;simp only[RD] at hr;subst hr;simp only at hv;subst hv;simp[-BM,-Ca,Bn e _ ht,q0,q2,q3,qt,AM YQ,c1,HF];rw[AR _ (AJ (q2 _ _))];simp[Gt]
  |some y=>
   rw[YM] at hr hv;obtain⟨wx,mx,rfl⟩:=hr;obtain⟨m4,_,AA9⟩:=orT nl m nl mx ord acc y ho h7 hw wx hn hn;have wo:=Nc ord.length true acc y;have Cw:=small h7 wo;have Jp:=v197 nl m4 ord N (PK ord.length true acc y) (by omega);simp only[NX] at Jp;simp only at hv;cases hl:PS N (PK ord.length true acc y) with
   |none=>
    rw[hl] at Jp hv;simp only at hv Jp;subst hv;simp[-BM,-Ca,Bn e _ ht,q0,q2,q3,qt,AM YQ,c1,HF,AA9,Jp];have y2:∀(e1 e2 e3:B9),AA (sset (e1::e2::S) 2 e3) 1=some (.box [z0,z1,z2]):=fun e1 e2 e3=>by rw[AB _ (by omega)];exact q2 _ _
    simp[-BM,-Ca,y2];rw[AR _ (AJ (y2 _ _ _))];simp[Gt]
   |some u=>
    have hu:=MT hl;subst hu;rw[hl] at Jp hv;simp only at hv Jp;simp[-BM,-Ca,Bn e _ ht,q0,q2,q3,qt,AM YQ,c1,HF,AA9,Jp];rw[Br (k:=k) h U5];exact⟨q-1,by omega,⟨k+1,_,m4,z0,z1,z2,_,_,rfl,by omega,by rw[hR];exact hv,wo,by rw[AB _ (by omega)];exact q0 _ _,by rw[AB _ (by omega)];exact q2 _ _,AR _ (AJ (q3 _ _))⟩⟩
 .rw[List.drop_eq_nil_of_le (show x.ts.length<=k by omega),anL] at hv;subst hv;simp[zH,jN,YR,Qf];rw[AR _ n1];exact Sm hw
theorem v125(ho:CW ord)(h7:ord.length<=8)(hn:TQ nl ord):∀n,uQ nl ord N (As n) (gS ord n) (VJ ord N n)
 |0=>fun x=>nomatch x
 |n+1=>v125s (Az n) ho h7 hn (v125 ho h7 hn n)
end
section
variable {Z:Type}{P:iF Z}{ord:List Row}{ok g:Z->Prop}{T:Z->Bool}{v:Z->List Row}
theorem RO:∀{l:List (Fc Z)} {p:Option (Fc Z)},nz P p l=true->∀f,f∈l->nr P f=true
 |[],_,_,f,hf=>by cases hf
 |x::l,p,h,f,hf=>by
  rw[ZD] at h;simp only[and_eq_true] at h;rcases List.mem_cons.1 hf with e|e
  .subst e;exact h.1.2
  .exact RO h.2 f e
theorem RN:∀{l:List (Tm Z)} {p:Option (Tm Z)},wk P p l=true->∀t,t∈l->nz P none t.fs=true
 |[],_,_,f,hf=>by cases hf
 |x::l,p,h,f,hf=>by
  rw[ZG] at h;simp only[and_eq_true] at h;rcases List.mem_cons.1 hf with e|e
  .subst e;exact h.1.2
  .exact RN h.2 f e
theorem gd_fc(hV:∀a,ok a->P.V a=true->T a=false->(∀r,r∈v a->r∈ord)->g a){f:Fc Z}(KB:KU ok f)(h:nr P f=true)(ht:nu T f=false)(hv:∀r,r∈Ej v f->r∈ord):wY ord g f:=by
 simp only[nu,Bool.or_eq_false_iff,decide_eq_false_iff_not] at ht;obtain⟨k4,hT⟩:=ht;unfold nr at h;split at h
 .cases h
 .split at h
  .cases h
  .split at h
   .cases h
   .rename_i hA
    have BE:∀a,a∈f.args->g a:=by
     intro a ha;have hA:f.args.any (fun a=>!P.V a||P.em a)=false:=by simpa using hA
     have h1:=List.any_eq_false.1 hA a ha;have h2:=List.any_eq_false.1 hT a ha;simp only[or_eq_true,not_eq_true',not_or,not_eq_true] at h1;refine hV a (KB.args a ha) (by simpa using h1.1) (by simpa using h2) fun r hr=>hv r ?_;simp only[Ej,List.mem_append,List.mem_flatMap];exact .inr (.inl ⟨a,ha,hr⟩)
    split at h<;>rename_i k0
    .exact .inl ⟨k0,hv _ (by simp[Ej,k0])⟩
    .right;refine⟨k0,?_⟩;split at h
     .match hl:f.args with
      |[]=>rw[hl] at h;simp[Sb] at h
      |[a]=>rw[hl] at h;simp[Sb] at h
      |a::b::l=>exact⟨a,b::l,rfl,BE a (by simp[hl]),.inr (.inr ⟨b,l,rfl,BE b (by simp[hl])⟩)⟩
     .split at h
      .rename_i k2
       match hl:f.args with
       |[]=>rw[hl] at h;simp[Ze] at h
       |a::l=>exact⟨a,l,rfl,BE a (by simp[hl]),.inl k2⟩
      .split at h
       .rename_i k3
        match hl:f.args with
        |[]=>rw[hl] at h;simp[ZA] at h
        |a::l=>exact⟨a,l,rfl,BE a (by simp[hl]),.inr (.inl k3)⟩
       .first
        |(
          split at h
          .rename_i k4';exact absurd k4' k4
          .cases h)
        |cases h
theorem gd_an{e:Z->D}(hV:∀a,ok a->P.V a=true->T a=false->(∀r,r∈v a->r∈ord)->g a){x:An Z}(hx:Hd ok x)(h:ov P e x=true)(ht:AAW T x=false)(hv:∀r,r∈Kv v x->r∈ord):gdAn ord g x:=by
 simp only[ov,and_eq_true] at h;refine⟨hx.len,fun t oY=>⟨(hx.ts t oY).len,fun f hf=>?_⟩⟩;have h1:=RN h.2 t oY;have h2:=List.any_eq_false.1 ht t oY;have h3:AAg T t=false:=by simpa using h2
 have h4:t.fs.any (nu T)=false:=h3;have h5:=List.any_eq_false.1 h4 f hf;refine gd_fc hV ((hx.ts t oY).fs f hf) (RO h1 f hf) (by simpa using h5) fun r hr=>hv r ?_;simp only[Kv,JC,List.mem_flatMap];exact⟨t,oY,f,hf,hr⟩
end
theorem dS{ord:List Row}:∀n (x:Eu n),Bf n x->Kp n x=true->iG n x=false->(∀r,r∈CV n x->r∈ord)->gS ord n x
 |0,x=>nomatch x
 |n+1,x=>fun hx h ht hv=>gd_an (P:=oz n) (dS n) hx h ht hv
section
variable {Z:Type}{P:iF Z}{sm:Z->Prop}
theorem YT{v:Vl}(h:SZ v=true):v.text.length<=140737488355328:=by
 unfold SZ at h;split at h
 .have:v.text=[]:=by simpa using h
  simp[this]
 .split at h
  .have:=of_decide_eq_true h;omega
  .split at h
   .simp at h;simp[h.2]
   .cases h
theorem zQ{v:Vl}(h:zM v=true):v.text.length<=140737488355328:=by simp[zM] at h;simp[h.2.2]
theorem sm_fc(hV:∀a,P.V a=true->sm a){f:Fc Z}(h:nr P f=true)(hi:f.items.length<=1024):nf sm f:=by
 unfold nr at h;split at h
 .cases h
 .rename_i hp;split at h
  .cases h
  .split at h
   .cases h
   .rename_i hA;have hA:f.args.any (fun a=>!P.V a||P.em a)=false:=by simpa using hA
    have BE:∀a,a∈f.args->sm a:=by intro a ha;have h1:=List.any_eq_false.1 hA a ha;simp only[or_eq_true,not_eq_true',not_or,not_eq_true] at h1;exact hV a (by simpa using h1.1)
    have rest:f.kind≠4->f.args.length<=140737488355328->nf sm f:=by
     intro k4 hl
     have an:Hr f=true:=by
      cases hq:Hr f with
      |true=>rfl
      |false=>exact absurd ⟨k4,hq⟩ hp
     simp only[Hr,and_eq_true,decide_eq_true_eq] at an;have hit:f.items=[]:=List.length_eq_zero_iff.1 an.1.1.2;exact⟨hl,BE,by simp[hit],fun p hp=>(by rw[hit] at hp;cases hp),zQ an.2⟩
    split at h
    .rename_i k0;simp at h;exact rest (by omega) (by simp[h.2])
    .split at h
     .rename_i k1;refine rest (by omega) ?_
      match hl:f.args with
      |[]=>simp
      |[a]=>simp
      |[a,b]=>simp
      |a::b::c::l=>rw[hl] at h;simp[Sb] at h
     .split at h
      .rename_i k2;refine rest (by omega) ?_
       match hl:f.args with
       |[]=>simp
       |[a]=>simp
       |a::b::l=>rw[hl] at h;simp[Ze] at h
      .split at h
       .rename_i k3;refine rest (by omega) ?_
        match hl:f.args with
        |[]=>simp
        |[a]=>simp
        |a::b::l=>rw[hl] at h;simp[ZA] at h
       .split at h
        .simp only[and_eq_true,decide_eq_true_eq,not_eq_true',mD] at h;obtain⟨⟨⟨⟨h1,_⟩,h2⟩,_⟩,⟨⟨_,h3⟩,_⟩,h4⟩:=h;refine⟨by omega,BE,by omega,fun p hp=>⟨?_,?_⟩,YT h3⟩
         .have:=List.any_eq_false.1 h4 p hp;simp only[Y5,or_eq_true,not_or,not_eq_true,not_eq_true'] at this;exact YT (by simpa using this.1.1)
         .have:=List.any_eq_false.1 h2 p hp;simp only[or_eq_true,not_or,not_eq_true,not_eq_true'] at this;exact hV p.2 (by simpa using this.1)
        .cases h
theorem sm_an{e:Z->D}(hV:∀a,P.V a=true->sm a){x:An Z}(h:ov P e x=true):lf sm x:=by simp only[ov,Ui,and_eq_true,decide_eq_true_eq] at h;obtain⟨⟨⟨⟨h1,_⟩,_⟩,h2⟩,h3⟩:=h;refine⟨by omega,fun t ht=>?_⟩;have h4:=List.all_eq_true.1 h2 t ht;simp only[bT,and_eq_true,decide_eq_true_eq] at h4;refine⟨by omega,fun f hf=>sm_fc hV (RO (RN h3 t ht) f hf) ?_⟩;have h5:=List.all_eq_true.1 h4.2 f hf;simp only[mO,and_eq_true,decide_eq_true_eq] at h5;exact h5.2
end
theorem qF:∀n (x:Eu n),Kp n x=true->Lu n x
 |0,x=>nomatch x
 |n+1,x=>fun h=>sm_an (P:=oz n) (qF n) h
theorem mH{x:SA}(h:KJ x=true):ml x:=qF x.1 x.2 h
noncomputable def buS(ord:List Row)(N:Int)(x:SA):Option T:=VJ ord N x.1 x.2
def teS(x:SA):Bool:=iG x.1 x.2
def Zr(x:SA):List Row:=CV x.1 x.2
def BD(nl:Bool)(ord:List Row)(N:Int)(x:SA)(r:D):Prop:=
 (¬(CW ord/\KJ x=true/\0<=N)/\r=.AY [zB,.i .i64 1]) \/
 ((CW ord/\KJ x=true/\0<=N)/\teS x=true/\r=.AY [zB,.i .i64 13]) \/
 ((CW ord/\KJ x=true/\0<=N)/\teS x=false/\(∃w,w∈Zr x/\w∉ord)/\r=.AY [zB,.i .i64 4]) \/
 ((CW ord/\KJ x=true/\0<=N)/\teS x=false/\(∀w,w∈Zr x->w∈ord)/\RD nl ord (buS ord N x) r)
theorem BD.AG{nl:Bool}{ord:List Row}{N:Int}{x:SA}{r:D}(h:BD nl ord N x r):AG r=true:=by
 rcases h with⟨_,rfl⟩|⟨_,_,rfl⟩|⟨_,_,_,rfl⟩|⟨_,_,_,h⟩
 .simp[DE.AG,A9]
 .simp[DE.AG,A9]
 .simp[DE.AG,A9]
 .exact h.AG
theorem v67(x:SA)(hx:Qc x)(hw:ml x->wS x<=50000)(nl:Bool)(ord:List Row)(hn:TQ nl ord)(h7:ord.length<=8)(N:Int) :
  ∃r,A0 (call dp) 67 [AN nl ord,eS x,.i .i64 N]=some r/\BD nl ord N x r:=by
 have UD:=v89 nl ord (by unfold Bd;omega);have te:=v62S x hx;have fH:A0 (call dp) 122 [eS x]=some (.b (teS x)):=v122 x.1 x.2 hx;apply j67 _ _ _ (BD nl ord N x) (by simp[A9,Ke.AG,Ke.strip]) (fun r h=>h.AG);have OE:strip (eS x)=eS x:=Ke.strip x;rw[OE];simp only[QK,Cq];by_cases ho:CW ord
 case neg=>
  have OC:¬(CW ord/\ord.length<=4096):=fun h=>ho h.1;simp only[OC,decide_false] at UD;simp[s67,UD,HF,Gt];exact .inl ⟨fun h=>ho h.1,rfl⟩
 have hyes:CW ord/\ord.length<=4096:=⟨ho,by omega⟩
 simp only[hyes,and_self,decide_true] at UD;by_cases Lq:KJ x=true
 case neg=>
  have hval':KJ x=false:=by simpa using Lq
  rw[hval'] at te;simp[s67,UD,te,HF,Gt];exact .inl ⟨fun h=>Lq h.2.1,rfl⟩
 rw[Lq] at te;obtain⟨s,B3,e68,hs,hsl⟩:=v68 x hx (hw (mH Lq));by_cases hN:N<0
 .simp[s67,UD,te,hN,HF,Gt];exact .inl ⟨fun h=>by omega,rfl⟩
 have hN':0<=N:=by omega
 cases xq:teS x with
 |true=>
  rw[xq] at fH;simp[s67,UD,te,hN,fH,HF,Gt];exact .inr (.inl ⟨⟨ho,Lq,hN'⟩,xq,rfl⟩)
 |false=>
  rw[xq] at fH;obtain⟨S',ny,hp⟩:=v123 B3 s (by unfold Bd;omega) (ib:=0) (B3:=nl) (ord:=ord) (S0:=[B9.box [.sl 2 true [] .ro,.sl 3 true [] .ro,.i .i64 0],B9.box [AN nl ord]]) (by unfold Bd;omega) rfl;have p0:=hp 0 _ (show AA [B9.box [.sl 2 true [] .ro,.sl 3 true [] .ro,.i .i64 0],B9.box [AN nl ord]] 0=some (.box [AN nl ord]) from rfl);have p1:=hp 1 _ (show AA [B9.box [.sl 2 true [] .ro,.sl 3 true [] .ro,.i .i64 0],B9.box [AN nl ord]] 1=some (.box [.sl 2 true [] .ro,.sl 3 true [] .ro,.i .i64 0]) from rfl);cases hany:s.any fun r=>!decide (r∈ord) with
  |true=>
   rw[hany] at ny;obtain⟨r,hr1,xI⟩:=List.any_eq_true.1 hany;simp[s67,UD,te,hN,fH,e68,ny,HF,p1];rw[AR _ (AJ p1)];simp[Gt];exact .inr (.inr (.inl ⟨⟨ho,Lq,hN'⟩,xq,⟨r,(hs r).1 hr1,by simpa using xI⟩,rfl⟩))
  |false=>
   rw[hany] at ny
   have KQ:∀w,w∈Zr x->w∈ord:=by intro w xR;have:=List.any_eq_false.1 hany w ((hs w).2 xR);simpa using this
   obtain⟨r,tg,hr⟩:=v125 (N:=N) ho h7 hn x.1 x.2 (dS x.1 x.2 hx Lq xq KQ);have tg:A0 (call dp) 125 [.agg [AN nl ord,.i .i64 N],eS x]=some r:=tg;have Rr:B8 [.sl 2 true [] .ro,.i .i64 0] [(0,1,false,AN nl ord),(1,1,false,.i .i64 N)]=some [AN nl ord,.i .i64 N]:=by simp[B8]
   have fin:∀d,RD nl ord (buS ord N x) d->BD nl ord N x d:=fun d h=>.inr (.inr (.inr ⟨⟨ho,Lq,hN'⟩,xq,KQ,h⟩));simp[-Oi,s67,UD,te,hN,fH,e68,ny,p0,p1,Rr,tg];have hbu:VJ ord N x.1 x.2=buS ord N x:=rfl;rw[hbu] at hr;cases hb:buS ord N x with
   |none=>
    rw[hb] at hr fin;simp only[RD] at hr;subst hr;simp[p1];rw[AR _ (AJ p1)];simp[Gt];exact fin _ (by simp)
   |some t=>
    rw[hb] at hr fin;obtain⟨wt,m,rfl⟩:=hr;simp[p1];rw[AR _ (AJ p1)];simp;exact fin _ (Sm wt)
end Go.Proofs.YtjniafcnjbbomaaGreatDoor.DE.V
namespace Go.Proofs.YtjniafcnjbbomaaGreatDoor.DE
open Go
abbrev nM(a2 a3 a7 a8 a9 a10:D):List D:=B0 32 [(2,a2),(3,a3),(7,a7),(8,a8),(9,a9),(10,a10)]
def kp:Mi:=fun cf a2 a3 a7 a8 a9 a10 S Q=>OX (A0 cf 191 [a3,(.s [42])]) fun x1=>Q .ret (nM x1 .top .top .top .top .top) S
def e120_r0:N6 Y7 nM kp:=bK
def rJ:Mi:=fun cf a2 a3 a7 a8 a9 a10 S Q=>OX (A4 .lss .num a9 a8) fun x2=>WB x2
 (OX (Ak 11 a7 a9) fun x3=>OX (AE S 11 true x3) fun x4=>al [.n 0,.n 0,.n 0,.z 1,.n 0,.z 4,.n 0,.n 0,.n 0,.s [],.n 0] S fun x5 S6=>OX (Ax S6 11 true x5 x4) fun S8=>OX (AO 0 x5) fun x9=>OX (AE S8 10 true x9) fun x10=>OX (A0 cf 189 [x10]) fun x11=>OX (AO 10 x5) fun x12=>OX (AE S8 1 false x12) fun x13=>OX (A4 .neq .num x13 (.n 1)) fun x14=>jn (fun(y16 y17 y18 y19 y20 y21 y22 y23:D) (S24:A1)=>OX (AV 1 false [y19]) fun x25=>OX (Be 1 false y17 (.sl 1 false x25 .ro) S24) fun p27=>OX (A4 .add .num y22 (.n 1)) fun x28=>Q .normal (nM y16 p27.1 y20 y21 x28 .top) p27.2) fun k15=>WB x14
 (OX (AO 10 x5) fun x29=>OX (AE S8 1 false x29) fun x30=>OX (A0 cf 190 [x30]) fun x31=>OX (A4 .add .str (.s [94]) x31) fun x32=>OX (A4 .add .str x11 x32) fun x33=>k15 a2 a3 D.top x33 a7 a8 a9 D.top S8)
 (k15 a2 a3 x5 x11 a7 a8 a9 x14 S8))
 (Q (.exit 0) (nM a2 a3 a7 a8 a9 x2) S)
def e120_0:L6 fA nM rJ:=bu
def s120:EV:=fun cf a0 S Post=>OX (AK false a0) fun x34=>W cf (.loop [] fA) (nM .top (.z 1) a0 x34 (.n 0) .top) S (Af 0 (QS cf Y7 (Aw [.t 2] Post)))
def i120:I1 120 s120:=JF d120
abbrev oD(a1 a2 a3 a48 a49 a50 a51:D):List D:=B0 90 [(1,a1),(2,a2),(3,a3),(48,a48),(49,a49),(50,a50),(51,a51)]
def jY:Sx:=fun cf a1 a2 a3 a48 a49 a50 a51 S Q=>OX (A0 cf 257 []) fun x1=>OX (AO 4 a1) fun x2=>OX (AE S 1 false x2) fun x3=>OX (Ak 1 x1 x3) fun x4=>OX (AE S 1 false x4) fun x5=>OX (A4 .add .str (.s [116,101,115,116,91]) x5) fun x6=>OX (A4 .add .str x6 (.s [123])) fun x7=>OX (A0 cf 191 [a3,(.s [59,32])]) fun x8=>OX (A4 .add .str x7 x8) fun x9=>OX (A4 .add .str x9 (.s [125,32])) fun x10=>OX (A0 cf 258 []) fun x11=>OX (AO 6 a1) fun x12=>OX (AE S 1 false x12) fun x13=>OX (A4 .sub .num x13 (.n 5)) fun x14=>OX (Ak 1 x11 x14) fun x15=>OX (AE S 1 false x15) fun x16=>OX (A4 .add .str x10 x16) fun x17=>OX (A4 .add .str x17 (.s [32])) fun x18=>OX (AO 7 a1) fun x19=>OX (AE S 3 true x19) fun x20=>OX (A0 cf 256 [x20]) fun x21=>OX (A4 .add .str x18 x21) fun x22=>OX (A4 .add .str x22 (.s [93])) fun x23=>Q .ret (oD .top x23 .top .top .top .top .top) S
def e189_r0:N7 XL oD jY:=yH
def qs:Sx:=fun cf a1 a2 a3 a48 a49 a50 a51 S Q=>OX (A4 .lss .num a50 a49) fun x24=>WB x24
 (OX (Ak 4 a48 a50) fun x25=>OX (AE S 4 true x25) fun x26=>al [.n 0,.n 0,.s [],.z 2] S fun x27 S28=>OX (Ax S28 4 true x27 x26) fun S30=>OX (AO 0 x27) fun x31=>OX (AE S30 3 true x31) fun x32=>OX (A0 cf 256 [x32]) fun x33=>OX (A4 .add .str x33 (.s [58,32])) fun x34=>OX (AO 3 x27) fun x35=>OX (AE S30 1 false x35) fun x36=>OX (A0 cf 255 [x36]) fun x37=>OX (A4 .add .str x34 x37) fun x38=>OX (AV 1 false [x38]) fun x39=>OX (Be 1 false a3 (.sl 1 false x39 .ro) S30) fun p41=>OX (A4 .add .num a50 (.n 1)) fun x42=>Q .normal (oD a1 a2 p41.1 a48 a49 x42 .top) p41.2)
 (Q (.exit 1) (oD a1 a2 a3 a48 a49 a50 x24) S)
def e189_0:L7 fN oD qs:=yx
def mN:EV:=fun cf a0 S Post=>Cg 10 true a0 S fun x43 S44=>OX (AO 0 x43) fun x45=>OX (AE S44 1 false x45) fun x46=>OX (A4 .eql .num x46 (.n 0)) fun x47=>WB x47
 (OX (AO 1 x43) fun x48=>OX (AE S44 2 true x48) fun x49=>OX (A0 cf 254 [x49]) fun x50=>Post x50 S44)
 (OX (A4 .eql .num x46 (.n 1)) fun x51=>WB x51
 (OX (AO 3 x43) fun x52=>OX (AE S44 1 false x52) fun x53=>OX (Ak 1 x53 (.n 0)) fun x54=>OX (AE S44 1 false x54) fun x55=>OX (A0 cf 255 [x55]) fun x56=>OX (A4 .add .str (.s [109,111,110,117,115,91]) x56) fun x57=>OX (A4 .add .str x57 (.s [44,32])) fun x58=>OX (AO 3 x43) fun x59=>OX (AE S44 1 false x59) fun x60=>OX (Ak 1 x60 (.n 1)) fun x61=>OX (AE S44 1 false x61) fun x62=>OX (A0 cf 255 [x62]) fun x63=>OX (A4 .add .str x58 x63) fun x64=>OX (A4 .add .str x64 (.s [93])) fun x65=>Post x65 S44)
 (OX (A4 .eql .num x46 (.n 2)) fun x66=>WB x66
 (OX (AO 3 x43) fun x67=>OX (AE S44 1 false x67) fun x68=>OX (Ak 1 x68 (.n 0)) fun x69=>OX (AE S44 1 false x69) fun x70=>OX (A0 cf 255 [x70]) fun x71=>OX (A4 .add .str (.s [100,101,108,116,97,91]) x71) fun x72=>OX (A4 .add .str x72 (.s [93])) fun x73=>Post x73 S44)
 (OX (A4 .eql .num x46 (.n 3)) fun x74=>WB x74
 (OX (AO 3 x43) fun x75=>OX (AE S44 1 false x75) fun x76=>OX (Ak 1 x76 (.n 0)) fun x77=>OX (AE S44 1 false x77) fun x78=>OX (A0 cf 255 [x78]) fun x79=>OX (A4 .add .str (.s [97,98,115,101,110,116,91]) x79) fun x80=>OX (A4 .add .str x80 (.s [93])) fun x81=>Post x81 S44)
 (OX (AO 5 x43) fun x82=>OX (AE S44 1 false x82) fun x83=>OX (AK false x83) fun x84=>W cf (.loop [] fN) (oD x43 .top (.z 1) x83 x84 (.n 0) .top) S44 (Af 1 (QS cf XL (Aw [.t 2] Post)))))))
def i189:I1 189 mN:=JF d189
abbrev oE(a2 a3 a9 a10 a11 a12:D):List D:=B0 50 [(2,a2),(3,a3),(9,a9),(10,a10),(11,a11),(12,a12)]
def iV:Mi:=fun cf a2 a3 a9 a10 a11 a12 S Q=>OX (A0 cf 191 [a3,(.s [32,43,32])]) fun x1=>Q .ret (oE x1 .top .top .top .top .top) S
def AA4:N6 WE oE iV:=bK
def vC:Mi:=fun cf a2 a3 a9 a10 a11 a12 S Q=>OX (A4 .lss .num a11 a10) fun x2=>WB x2
 (OX (Ak 2 a9 a11) fun x3=>OX (AE S 2 true x3) fun x4=>al [.n 0,.z 11] S fun x5 S6=>OX (Ax S6 2 true x5 x4) fun S8=>OX (AO 1 x5) fun x9=>OX (AE S8 1 false x9) fun x10=>OX (AK false x10) fun x11=>OX (A4 .eql .num x11 (.n 0)) fun x12=>jn (fun(y14 y15 y16 y17 y18:D) (S19:A1)=>OX (A4 .add .num y18 (.n 1)) fun x20=>Q .normal (oE y14 y15 y16 y17 x20 .top) S19) fun k13=>WB x12
 (OX (AO 0 x5) fun x21=>OX (AE S8 1 false x21) fun x22=>OX (A0 cf 314 [x22,(.n 10)]) fun x23=>OX (AV 1 false [x23]) fun x24=>OX (Be 1 false a3 (.sl 1 false x24 .ro) S8) fun p26=>k13 a2 p26.1 a9 a10 a11 p26.2)
 (OX (AO 0 x5) fun x27=>OX (AE S8 1 false x27) fun x28=>OX (A4 .eql .num x28 (.n 1)) fun x29=>WB x29
 (OX (AO 1 x5) fun x30=>OX (AE S8 1 false x30) fun x31=>OX (A0 cf 120 [x31]) fun x32=>OX (AV 1 false [x32]) fun x33=>OX (Be 1 false a3 (.sl 1 false x33 .ro) S8) fun p35=>k13 a2 p35.1 a9 a10 a11 p35.2)
 (OX (AO 0 x5) fun x36=>OX (AE S8 1 false x36) fun x37=>OX (A0 cf 314 [x37,(.n 10)]) fun x38=>OX (A4 .add .str x38 (.s [42])) fun x39=>OX (AO 1 x5) fun x40=>OX (AE S8 1 false x40) fun x41=>OX (A0 cf 120 [x41]) fun x42=>OX (A4 .add .str x39 x42) fun x43=>OX (AV 1 false [x43]) fun x44=>OX (Be 1 false a3 (.sl 1 false x44 .ro) S8) fun p46=>k13 a2 p46.1 a9 a10 a11 p46.2)))
 (Q (.exit 0) (oE a2 a3 a9 a10 a11 x2) S)
def e255_0:L6 dx oE vC:=bu
def s255:EV:=fun cf a0 S Post=>OX (AK false a0) fun x47=>OX (A4 .eql .num x47 (.n 0)) fun x48=>WB x48
 (Post (.s [48]) S)
 (OX (AK false a0) fun x49=>W cf (.loop [] dx) (oE .top (.z 1) a0 x49 (.n 0) .top) S (Af 0 (QS cf WE (Aw [.t 2] Post))))
def i255:I1 255 s255:=JF d255
def s254:EV:=fun cf a0 S Post=>Cg 2 true a0 S fun x1 S2=>OX (AE S2 2 true x1) fun x3=>OX (A0 cf 52 [x3]) fun x4=>OX (ES .not x4) fun x5=>WB x5
 (Post (.s []) S2)
 (OX (AO 0 x1) fun x6=>OX (AE S2 1 false x6) fun x7=>OX (A0 cf 190 [x7]) fun x8=>OX (A4 .add .str (.s [116]) x8) fun x9=>OX (A4 .add .str x9 (.s [46])) fun x10=>OX (AO 1 x1) fun x11=>OX (AE S2 1 false x11) fun x12=>OX (A0 cf 190 [x12]) fun x13=>OX (A4 .add .str x10 x13) fun x14=>Post x14 S2)
def i254:I1 254 s254:=JF d254
def lg:EV:=fun cf a0 S Post=>Cg 3 true a0 S fun x1 S2=>OX (AE S2 3 true x1) fun x3=>OX (A0 cf 250 [x3]) fun x4=>OX (ES .not x4) fun x5=>WB x5
 (Post (.s []) S2)
 (OX (AO 0 x1) fun x6=>OX (AE S2 1 false x6) fun x7=>OX (A4 .eql .num x7 (.n 0)) fun x8=>WB x8
 (OX (AO 1 x1) fun x9=>OX (AE S2 1 false x9) fun x10=>OX (A0 cf 314 [x10,(.n 10)]) fun x11=>Post x11 S2)
 (OX (AO 0 x1) fun x12=>OX (AE S2 1 false x12) fun x13=>OX (A4 .eql .num x13 (.n 1)) fun x14=>WB x14
 (OX (AO 2 x1) fun x15=>OX (AE S2 1 false x15) fun x16=>OX (A0 cf 315 [x16,(.s [39]),(.s [39,39])]) fun x17=>OX (A4 .add .str (.s [39]) x17) fun x18=>OX (A4 .add .str x18 (.s [39])) fun x19=>Post x19 S2)
 (OX (AO 1 x1) fun x20=>OX (AE S2 1 false x20) fun x21=>OX (A4 .eql .num x21 (.n 1)) fun x22=>WB x22
 (Post (.s [84,82,85,69]) S2)
 (Post (.s [70,65,76,83,69]) S2))))
def i256:I1 256 lg:=JF d256
def s257:TP0:=fun cf S Post=>OX (AV 1 false [(.s [67,79,85,78,84]),(.s [83,85,77]),(.s [77,73,78]),(.s [77,65,88])]) fun x1=>Post (.sl 1 false x1 .ro) S
def i257:I0 257 s257:=mI0 d257
def s258:TP0:=fun cf S Post=>OX (AV 1 false [(.s [61]),(.s [60,62]),(.s [60]),(.s [60,61]),(.s [62]),(.s [62,61])]) fun x1=>Post (.sl 1 false x1 .ro) S
def i258:I0 258 s258:=mI0 d258
end Go.Proofs.YtjniafcnjbbomaaGreatDoor.DE
namespace Go.Proofs.YtjniafcnjbbomaaGreatDoor.DE.V
open Go BT
@[simp] theorem stripT_s(l:List UInt8):Ae (.s l)=.s l:=(rfl)
theorem OT{g:Nat}{f:Fn}(hf:dp g=some f){a:List D}{r:D}(hn:a.length≠f.np)(ha:A9 (stripL a)=true)(h:Bb (call dq) f (stripL a) []=some (r,[]))(hr:Ae r=r)(pH:AG r=true):A0 (call dp) g a=some r:=by
 have hl:(stripL a).length=a.length:=by
  clear ha h hn
  induction a with
  |nil=>rfl
  |cons x l ih=>simp[stripL,ih]
 unfold A0;rw[if_pos ha,LO,hf];simp only;rw[if_neg (by rintro⟨q,_⟩;rw[hl] at q;exact hn q),h];simp only[hr];rw[if_pos pH]
theorem v190(n:Int)(h:KF n):A0 (call dp) 190 [.i .i64 n]=some (.s (Lib.itoa n)):=by refine OT (f:=d190) rfl (show(1:Nat)≠1003 by decide) rfl ?_ rfl rfl;unfold Bb;rw[if_neg (by decide),if_neg (by decide),if_pos (by decide)];simp only[stripL,Cq];exact if_pos h
theorem v314(n:Int)(h:KF n):A0 (call dp) 314 [.i .i64 n,.i .i64 10]=some (.s (Lib.itoa n)):=by refine OT (f:=d314) rfl (show(2:Nat)≠1004 by decide) rfl ?_ rfl rfl;unfold Bb;rw[if_neg (by decide),if_neg (by decide),if_neg (by decide),if_pos (by decide)];simp only[stripL,Cq];exact if_pos ⟨trivial,h.1,h.2⟩
theorem v315(s old new:List UInt8)(h:s.length<=1048576)(h1:1<=old.length)(h2:new.length<=1024):A0 (call dp) 315 [.s s,.s old,.s new]=some (.s (Lib.replaceAll s old new)):=by refine OT (f:=d315) rfl (show(3:Nat)≠1002 by decide) rfl ?_ rfl rfl;unfold Bb;rw[if_neg (by decide),if_pos (by decide)];simp only[stripL,strip_s];rw[if_pos ⟨h,h1,h2⟩]
theorem SI:∀l:List (List UInt8),Jl (l.map fun x=>[.s x])=some l
 |[]=>rfl
 |x::l=>by simp[Jl,SI l]
theorem Yx(l:List (List UInt8)):Bo (l.map fun x=>[D.s x])=true:=by
 induction l with
 |nil=>rfl
 |cons x l ih=>simp[Bo,A9,ih]
theorem v191(nl:Bool)(l:List (List UInt8))(o:JB)(sep:List UInt8)(h:(sep.intercalate l).length<=1048576)(hl:l.length<=1048576):A0 (call dp) 191 [.sl 1 nl (l.map fun x=>[.s x]) o,.s sep]=some (.s (sep.intercalate l)):=by
 rw[Ci];have e:stripL [.sl 1 nl (l.map fun x=>[D.s x]) o,.s sep]=[.sl 1 nl (l.map fun x=>[D.s x]) .ro,.s sep]:=rfl;rw[e];refine OT (f:=d191) rfl (show(2:Nat)≠1001 by decide) ?_ ?_ rfl rfl
 .show A9 [.sl 1 nl (l.map fun x=>[D.s x]) .ro,.s sep]=true;simp[A9,DE.AG,Yx]
 .unfold Bb;rw[if_pos (by decide)]
  show(match Jl (l.map fun x=>[D.s x]) with
   |some l=>if(sep.intercalate l).length<=1048576/\l.length<=1048576 then some (D.s (sep.intercalate l),[]) else none
   |none=>none)=_
  rw[SI];simp only;rw[if_pos ⟨h,hl⟩]
theorem BP{a b:List UInt8}(h:a.length+b.length<=1048576):A4 .add .str (.s a) (.s b)=some (.s (a++b)):=by simp[A4,h]
theorem v254(r:Row)(h:ZZ r):A0 (call dp) 254 [.agg (Ar r)]=some (.s (Tj r)):=by
 apply i254 _ _ rfl rfl;have h1:=v190 r.1 h.1;have h2:=v190 r.2 h.2;have l1:=Lib.itoa_length_le r.1 h.1.1 h.1.2;have l2:=Lib.itoa_length_le r.2 h.2.1 h.2.2;by_cases hr:1<=r.1/\1<=r.2
 .have hk:NM r=true:=by simp[NM,hr]
  have e:Tj r=[116]++Lib.itoa r.1++[46]++Lib.itoa r.2:=if_pos hr;rw[e];simp[s254,AAn,hk,h1,h2];rw[BP (by simp;omega)];simp only[A5];rw[BP (by simp;omega)];simp only[A5];rw[BP (by simp;omega)];simp
 .have hk:NM r=false:=by
   cases q:NM r with
   |false=>rfl
   |true=>simp[NM] at q;exact absurd q hr
  have e:Tj r=[]:=if_neg hr;rw[e];simp[s254,AAn,hk]
theorem v256(v:Vl)(h:Wb v)(hl:v.text.length<=100000):A0 (call dp) 256 [.agg (OY v)]=some (.s (Lj v)):=by
 apply i256 _ _ rfl rfl;by_cases hk:SZ v=true
 .have h1:=v314 v.int h.2.1;have h2:=v315 v.text [39] [39,39] (by omega) (by simp) (by simp);have hv:=PC h;by_cases k0:v.kind=0
  .have e:Lj v=Lib.itoa v.int:=by rw[Lj,if_pos hk,if_pos k0]
   rw[e];simp[lg,dC,hk,k0,h1]
  .by_cases k1:v.kind=1
   .have e:Lj v=[39]++Lib.replaceAll v.text [39] [39,39]++[39]:=by rw[Lj,if_pos hk,if_neg k0,if_pos k1]
    rw[e] at hv ⊢;simp only[length_append,length_cons,length_nil] at hv;simp[lg,dC,hk,k0,k1,h2];rw[BP (by simp;omega)];simp only[A5];rw[BP (by simp;omega)];simp
   .by_cases k2:v.int=1
    .have e:Lj v=[84,82,85,69]:=by rw[Lj,if_pos hk,if_neg k0,if_neg k1,if_pos k2]
     rw[e];simp[lg,dC,hk,k0,k1,k2]
    .have e:Lj v=[70,65,76,83,69]:=by rw[Lj,if_pos hk,if_neg k0,if_neg k1,if_neg k2]
     rw[e];simp[lg,dC,hk,k0,k1,k2]
 .have Qy:SZ v=false:=by simpa using hk
  have e:Lj v=[]:=if_neg hk;rw[e];simp[lg,dC,Qy]
section
variable {Z:Type}(sh:Z->Prop)
def qC(f:Fc Z):Prop:=f.kind=0\/(f.kind=1/\∃a b,f.args=[a,b])\/((f.kind=2\/f.kind=3)/\∃a,f.args=[a])\/(f.kind=4/\0<=f.fn/\f.fn<=3/\5<=f.op/\f.op<=10)
structure lN(f:Fc Z):Prop where
 args:∀a,a∈f.args->sh a
 items:∀p,p∈f.items->sh p.2
 kind:qC f
def ShTm(t:Tm Z):Prop:=∀f,f∈t.fs->lN sh f
def ShAn(x:An Z):Prop:=∀t,t∈x.ts->ShTm sh t
end
def VK:(n:Nat)->Eu n->Prop
 |0,_=>True
 |n+1,x=>ShAn (VK n) x
section
variable {Z:Type}{P:iF Z}{sh:Z->Prop}
theorem sh_fc(hV:∀a,P.V a=true->sh a){f:Fc Z}(h:nr P f=true):lN sh f:=by
 unfold nr at h;split at h
 .cases h
 .rename_i hp;split at h
  .cases h
  .split at h
   .cases h
   .rename_i hA;have hA:f.args.any (fun a=>!P.V a||P.em a)=false:=by simpa using hA
    have BE:∀a,a∈f.args->sh a:=by intro a ha;have h1:=List.any_eq_false.1 hA a ha;simp only[or_eq_true,not_eq_true',not_or,not_eq_true] at h1;exact hV a (by simpa using h1.1)
    have rest:f.kind≠4->qC f->lN sh f:=by
     intro k4 hl
     have an:Hr f=true:=by
      cases hq:Hr f with
      |true=>rfl
      |false=>exact absurd ⟨k4,hq⟩ hp
     simp only[Hr,and_eq_true,decide_eq_true_eq] at an;have hit:f.items=[]:=List.length_eq_zero_iff.1 an.1.1.2;exact⟨BE,fun p hp=>(by rw[hit] at hp;cases hp),hl⟩
    split at h
    .rename_i k0;exact rest (by omega) (.inl k0)
    .split at h
     .rename_i k1;refine rest (by omega) (.inr (.inl ⟨k1,?_⟩))
      match hl:f.args with
      |[]=>rw[hl] at h;simp[Sb] at h
      |[a]=>rw[hl] at h;simp[Sb] at h
      |[a,b]=>exact⟨a,b,rfl⟩
      |a::b::c::l=>rw[hl] at h;simp[Sb] at h
     .split at h
      .rename_i k2;refine rest (by omega) (.inr (.inr (.inl ⟨.inl k2,?_⟩)))
       match hl:f.args with
       |[]=>rw[hl] at h;simp[Ze] at h
       |[a]=>exact⟨a,rfl⟩
       |a::b::l=>rw[hl] at h;simp[Ze] at h
      .split at h
       .rename_i k3;refine rest (by omega) (.inr (.inr (.inl ⟨.inr k3,?_⟩)))
        match hl:f.args with
        |[]=>rw[hl] at h;simp[ZA] at h
        |[a]=>exact⟨a,rfl⟩
        |a::b::l=>rw[hl] at h;simp[ZA] at h
       .split at h
        .rename_i k4;simp only[and_eq_true,decide_eq_true_eq,not_eq_true',mD] at h;obtain⟨⟨⟨⟨_,_⟩,h2⟩,_⟩,h3⟩:=h;refine⟨BE,fun p hp=>?_,.inr (.inr (.inr ⟨k4,by omega,by omega,by omega,by omega⟩))⟩;have:=List.any_eq_false.1 h2 p hp;simp only[or_eq_true,not_or,not_eq_true,not_eq_true'] at this;exact hV p.2 (by simpa using this.1)
        .cases h
theorem sh_an{e:Z->D}(hV:∀a,P.V a=true->sh a){x:An Z}(h:ov P e x=true):ShAn sh x:=by simp only[ov,and_eq_true] at h;exact fun t ht f hf=>sh_fc hV (RO (RN h.2 t ht) f hf)
end
theorem bL:∀n (x:Eu n),Kp n x=true->VK n x
 |0,x=>nomatch x
 |n+1,x=>fun h=>sh_an (P:=oz n) (bL n) h
@[simp] theorem Sc(l:List UInt8):AV 1 false [.s l]=some [[.s l]]:=(rfl)
def sC(x:List UInt8):List D:=[.s x]
def Z9(n:Bool)(L:List (List UInt8))(o:JB):D:=.sl 1 n (L.map sC) o
def QR{Z β:Type}(f:Z->β)(l:List Z)(k:Nat):List β:=(l.take k).map f
theorem Oz{Z β:Type}(f:Z->β){l:List Z}{k:Nat}{x:Z}(h:l[k]? = some x):QR f l (k+1)=QR f l k++[f x]:=by simp only[QR];rw[BV h];simp
theorem RU{Z β:Type}(f:Z->β){l:List Z}{k:Nat}(h:l.length<=k):QR f l k=l.map f:=by rw[QR,take_of_length_le h]
theorem R5{Z β:Type}(f:Z->β)(l:List Z)(k:Nat):(QR f l k).length<=l.length:=by simp[QR];omega
theorem Gj{Z β:Type}(f:Z->β)(l:List Z):QR f l 0=[]:=by simp[QR]
theorem iJ:D.sl 1 true [] .ro=Z9 true [] .ro:=rfl
theorem fD{S:A1}{nl:Bool}{o:JB}{L:List (List UInt8)}(h:Mj S nl L.length o)(hl:L.length<=60000)(x:List UInt8) :
  ∃o' S',Be 1 false (Z9 nl L o) (.sl 1 false [[.s x]] .ro) S=some (Z9 false (L++[x]) o',S')/\Mj S' false (L++[x]).length o'/\Gi S S':=by
 obtain⟨t,S',q1,q2,q3,q4,q5,q6,q7⟩:=LR (k:=1) (n':=false) (xs:=L.map sC) (ys:=[[.s x]]) (o':=.ro) (S:=S) (by simpa using h) (by simp[AP];omega) (by simp);exact⟨.tok t,S',by rw[Z9,q1];simp[sC,Z9],.inr ⟨rfl,t,rfl,q2⟩,q3⟩
theorem sn(n:Bool)(L:List (List UInt8))(o:JB)(sep:List UInt8)(h:(sep.intercalate L).length<=1048576)(hl:L.length<=1048576):A0 (call dp) 191 [Z9 n L o,.s sep]=some (.s (sep.intercalate L)):=v191 n L o sep h hl
section
variable {Z:Type}{e:Z->D}{tx:Z->List UInt8}
set_option maxHeartbeats 1000000 in
theorem v120(he:GE e)(nl:Bool)(l:List (Fc Z))(hb:l.length<=50000)(H:∀f,f∈l->A0 (call dp) 189 [.agg (GZ e f)]=some (.s (JX tx f))/\KF f.exp/\(JX tx f).length<=1000000)
  (hlen:(HZ tx l).length<=1000000):A0 (call dp) 120 [BI e nl l]=some (.s (HZ tx l)):=by
 apply i120 _ _ (by simp[A9,EH he]) rfl;simp[s120]
 let J:Nat->List D->A1->Prop:=fun q fr S=>∃k b2 n o b10,fr=B0 32 [(2,b2),(3,Z9 n (QR (JS tx) l k) o),(7,BI e nl l),(8,.i .i64 l.length),(9,.i .i64 (k:Nat)),(10,b10)]/\k+q=l.length/\Mj S n (QR (JS tx) l k).length o
 refine AW J ?_ l.length _ _ ⟨0,_,true,.ro,_,by rw[Gj];rfl,by simp,.inl ⟨rfl,by simp[Gj],rfl⟩⟩;intro q fr S hJ;obtain⟨k,b2,n,o,b10,C7,hk,hL⟩:=hJ;rw[C7];rw[<-Ay,e120_0];simp[rJ];split<;>rename_i h
 .obtain⟨f,hf⟩:=AZ (l:=l) (k:=k) (by omega);obtain⟨h1,h2,h3⟩:=H f (gC hf);obtain⟨T,hT⟩:∃T,T=QR (JS tx) l k:=⟨_,rfl⟩
  have hTl:T.length<=60000:=by have:=R5 (JS tx) l k;rw[hT];omega
  rw[<-hT] at hL ⊢;have PJ:QR (JS tx) l (k+1)=T++[JS tx f]:=by rw[Oz _ hf,hT]
  simp[Aq e _ hf,h1]
  have step:∀S1,Gi S S1->Mj S1 n T.length o->∃o' S',Be 1 false (Z9 n T o) (.sl 1 false [[.s (JS tx f)]] .ro) S1=some (Z9 false (T++[JS tx f]) o',S')/\Mj S' false (T++[JS tx f]).length o':=fun S1 _ hl=>by obtain⟨o',S',a,b,c⟩:=fD hl hTl (JS tx f);exact⟨o',S',a,b⟩
  obtain⟨o',S',a1,a2⟩:=step (B9.box (EF e f)::S) (Gi.push _ _) (hL.push _);by_cases hx:f.exp=1
  .have ef:JS tx f=JX tx f:=by simp[JS,hx]
   rw[ef] at a1 a2 PJ;simp[hx,jn,a1];rw[Bz (k:=k) (by unfold Bd;omega)];exact⟨q-1,by omega,k+1,_,false,o',_,by rw[PJ],by omega,by rw[PJ];exact a2⟩
  .have ef:JS tx f=JX tx f++([94]++Lib.itoa f.exp):=by simp[JS,hx]
   have hi:=Lib.itoa_length_le f.exp h2.1 h2.2;rw[ef] at a1 a2 PJ;simp[hx,jn,v190 f.exp h2];rw[BP (by simp;omega)];simp only[A5];rw[BP (by simp;omega)];simp only[A5,Sc];rw[show([94]++Lib.itoa f.exp:List UInt8)=94::Lib.itoa f.exp from rfl] at a1 a2 PJ;simp[a1];rw[Bz (k:=k) (by unfold Bd;omega)];exact⟨q-1,by omega,k+1,_,false,o',_,by rw[PJ],by omega,by rw[PJ];exact a2⟩
 .rw[RU _ (by omega)] at hL ⊢;have hj:=sn n (l.map (JS tx)) o [42] (by have:=hlen;unfold HZ at this;omega) (by simp;omega);simp only[e120_r0,kp,Av,Ad,hj,A5];simp[HZ]
def fnL:List (List UInt8):=[[67,79,85,78,84],[83,85,77],[77,73,78],[77,65,88]]
def opL:List (List UInt8):=[[61],[60,62],[60],[60,61],[62],[62,61]]
theorem v257:A0 (call dp) 257 []=some (Z9 false fnL .ro):=by apply i257 _ rfl rfl;rfl
theorem v258:A0 (call dp) 258 []=some (Z9 false opL .ro):=by apply i258 _ rfl rfl;rfl
theorem kL{n:Bool}{L:List (List UInt8)}{o:JB}{k:Nat}{x:List UInt8}(h:L[k]? = some x):Ak 1 (Z9 n L o) (.i .i64 k)=some (.el [.s x] 0):=by simp[Z9,Ak,h,sC]
set_option maxHeartbeats 2000000 in
theorem v189(he:GE e)(f:Fc Z)(Hv:ZZ f.row)(ha:∀a,a∈f.args->A0 (call dp) 255 [e a]=some (.s (tx a)))(pI:f.items.length<=50000)
  (hi:∀p,p∈f.items->A0 (call dp) 255 [e p.2]=some (.s (tx p.2))/\Wb p.1/\p.1.text.length<=100000/\(tx p.2).length<=600000) (hb:Wb f.bound/\f.bound.text.length<=100000) (hk:qC f)
  (hlen:(JX tx f).length<=1000000):A0 (call dp) 189 [.agg (GZ e f)]=some (.s (JX tx f)):=by
 apply i189 _ _ (by simp[A9,Ec he]) rfl;rcases hk with k0|⟨k1,a,b,oX⟩|⟨k23,a,haa⟩|⟨k4,f1,f2,o1,o2⟩
 .have et:JX tx f=Tj f.row:=by simp[JX,k0]
  rw[et];simp[mN,k0,v254 f.row Hv]
 .have et:JX tx f=[109,111,110,117,115,91]++tx a++[44,32]++tx b++[93]:=by simp[JX,k1,ME,oX]
  rw[et] at hlen ⊢;have e0:A0 (call dp) 255 [e a]=some (.s (tx a)):=ha a (by simp[oX]);have e1:A0 (call dp) 255 [e b]=some (.s (tx b)):=ha b (by simp[oX]);have i0:Ak 1 (Bl e f.NG f.args) (.i .i64 0)=some (.el [e a] 0):=Bq e .i64 (n:=0) (by simp[oX]);have i1:Ak 1 (Bl e f.NG f.args) (.i .i64 1)=some (.el [e b] 0):=Bq e .i64 (n:=1) (by simp[oX]);simp only[length_append,length_cons,length_nil] at hlen;simp[mN,k1,i0,i1,e0,e1];rw[BP (by simp only[length_cons,length_nil];omega)];simp only[A5];rw[BP (by simp only[length_append,length_cons,length_nil];omega)];simp only[A5];rw[BP (by simp only[length_append,length_cons,length_nil];omega)];simp only[A5];rw[BP (by simp only[length_append,length_cons,length_nil];omega)];simp
 .have i0:Ak 1 (Bl e f.NG f.args) (.i .i64 0)=some (.el [e a] 0):=Bq e .i64 (n:=0) (by simp[haa]);have e0:A0 (call dp) 255 [e a]=some (.s (tx a)):=ha a (by simp[haa]);rcases k23 with k2|k3
  .have et:JX tx f=[100,101,108,116,97,91]++tx a++[93]:=by simp[JX,k2,ME,haa]
   rw[et] at hlen ⊢;simp only[length_append,length_cons,length_nil] at hlen;simp[mN,k2,i0,e0];rw[BP (by simp only[length_cons,length_nil];omega)];simp only[A5];rw[BP (by simp only[length_append,length_cons,length_nil];omega)];simp
  .have et:JX tx f=[97,98,115,101,110,116,91]++tx a++[93]:=by simp[JX,k3,ME,haa]
   rw[et] at hlen ⊢;simp only[length_append,length_cons,length_nil] at hlen;simp[mN,k3,i0,e0];rw[BP (by simp only[length_cons,length_nil];omega)];simp only[A5];rw[BP (by simp only[length_append,length_cons,length_nil];omega)];simp
 .have et:JX tx f=[116,101,115,116,91]++XW f.fn++[123]++([59,32]:List UInt8).intercalate (f.items.map (LS tx))++[125,32]++Xx f.op++[32]++Lj f.bound++[93]:=by simp[JX,k4]
  rw[et] at hlen ⊢;obtain⟨TX,hTX⟩:∃TX,TX=[116,101,115,116,91]++XW f.fn++[123]++([59,32]:List UInt8).intercalate (f.items.map (LS tx))++[125,32]++Xx f.op++[32]++Lj f.bound++[93]:=⟨_,rfl⟩
  rw[<-hTX];simp[mN,k4,iJ]
  let J:Nat->List D->A1->Prop:=fun q fr S=>∃k b2 n o b51,fr=B0 90 [(1,.bx 0 0),(2,b2),(3,Z9 n (QR (LS tx) f.items k) o),(48,B6 e f.inl f.items),(49,.i .i64 f.items.length),(50,.i .i64 (k:Nat)),(51,b51)]/\k+q=f.items.length/\Mj S n (QR (LS tx) f.items k).length o/\AA S 0=some (.box (GZ e f))
  refine AW J ?_ f.items.length _ _ ⟨0,_,true,.ro,_,by rw[Gj];rfl,by simp,.inl ⟨rfl,by simp[Gj],rfl⟩,rfl⟩;intro q fr S hJ;obtain⟨k,b2,n,o,b51,C7,hk,hL,hS⟩:=hJ;rw[C7];rw[<-Ay,e189_0];simp[qs];split<;>rename_i h
  .obtain⟨p,hp⟩:=AZ (l:=f.items) (k:=k) (by omega);obtain⟨p1,p2,p3,p4⟩:=hi p (gC hp);have hv:=PC p2;obtain⟨T,hT⟩:∃T,T=QR (LS tx) f.items k:=⟨_,rfl⟩
   have hTl:T.length<=60000:=by have:=R5 (LS tx) f.items k;rw[hT];omega
   rw[<-hT] at hL ⊢;have PJ:QR (LS tx) f.items (k+1)=T++[LS tx p]:=by rw[Oz _ hp,hT]
   obtain⟨o',S',a1,a2,a3⟩:=fD (hL.push (B9.box (Gw e p))) hTl (LS tx p);simp[Bw e _ hp,Cs e he,v256 p.1 p2 p3,p1];rw[BP (by simp only[length_cons,length_nil];omega)];simp only[A5];rw[BP (by simp only[length_append,length_cons,length_nil];omega)];have ei:Lj p.1++[58,32]++tx p.2=LS tx p:=rfl;simp only[A5,ei,Sc,a1];rw[Bz (k:=k) (by unfold Bd;omega)];exact⟨q-1,by omega,k+1,_,false,o',_,by rw[PJ],by omega,by rw[PJ];exact a2,a3 _ _ (AM hS)⟩
  .rw[RU _ (by omega)] at hL ⊢;simp only[length_append,length_cons,length_nil] at hlen;have hj:=sn n (f.items.map (LS tx)) o [59,32] (by omega) (by simp;omega);obtain⟨u,hu⟩:∃u:Nat,f.fn=u:=⟨f.fn.toNat,by omega⟩
   obtain⟨v,hv⟩:∃v:Nat,f.op-5=v:=⟨(f.op-5).toNat,by omega⟩
   have g1:Ak 1 (Z9 false fnL .ro) (.i .i64 f.fn)=some (.el [.s (XW f.fn)] 0):=by
    rw[hu];refine kL ?_;have:u<4:=by omega
    have:XW (u:Int)=fnL.getD u []:=by simp[XW,fnL]
    rw[this,gD];rw[gA (by simp[fnL];omega)];rfl
   have g2:Ak 1 (Z9 false opL .ro) (.i .i64 (f.op-5))=some (.el [.s (Xx f.op)] 0):=by
    have:v<6:=by omega
    have e3:Xx f.op=opL.getD v []:=by simp only[Xx,hv];rfl
    rw[e3,hv];refine kL ?_;rw[gD,gA (by simp[opL];omega)];rfl
   have w1:IntKind.wrap .i64 (f.op-5)=f.op-5:=wrap64 ⟨by omega,by omega⟩;have q1:=v256 f.bound hb.1 hb.2;simp only[e189_r0,jY,Av,Ad,v257,v258,hj,A5,uF,zero_add,GH,hS,K2,LW,at_4,at_6,mr,g1,ldD_el,Cp,w1,g2,q1];have B:∀{x y:List UInt8},x.length+y.length<=1048576->A4 .add .str (.s x) (.s y)=some (.s (x++y)):=fun h=>BP h;have l1:=aU f.fn;have l2:=Zj f.op;generalize XW f.fn=z1 at *;generalize Xx f.op=z2 at *;generalize Lj f.bound=z3 at *;generalize([59,32]:List UInt8).intercalate (f.items.map (LS tx))=z4 at *;have c1:[D.s z1][0]? = some (D.s z1):=rfl;have c2:[D.s z2][0]? = some (D.s z2):=rfl;simp only[c1,c2,A5];rw[B (by simp only[length_cons,length_nil];omega)];simp only[A5];rw[B (by simp only[length_append,length_cons,length_nil];omega)];simp only[A5];rw[B (by simp only[length_append,length_cons,length_nil];omega)];simp only[A5];rw[B (by simp only[length_append,length_cons,length_nil];omega)];simp only[A5];rw[B (by simp only[length_append,length_cons,length_nil];omega)];simp only[A5];rw[B (by simp only[length_append,length_cons,length_nil];omega)];simp only[A5];rw[B (by simp only[length_append,length_cons,length_nil];omega)];simp only[A5];rw[B (by simp only[length_append,length_cons,length_nil];omega)];simp only[A5];rw[hTX];simp
set_option maxHeartbeats 1000000 in
theorem v255(he:GE e)(x:An Z)(hb:x.ts.length<=50000)(H:∀t,t∈x.ts->A0 (call dp) 120 [BI e t.nl t.fs]=some (.s (HZ tx t.fs))/\KF t.c/\(HZ tx t.fs).length<=1000000)
  (hlen:(Sz tx x).length<=1000000):A0 (call dp) 255 [CL e x]=some (.s (Sz tx x)):=by
 apply i255 _ _ (by simp[A9,Bj he]) rfl;by_cases h0:x.ts.length=0
 .have et:Sz tx x=[48]:=if_pos h0;rw[et];simp[s255,h0]
 .have et:Sz tx x=([32,43,32]:List UInt8).intercalate (x.ts.map (Jq tx)):=if_neg h0;rw[et] at hlen ⊢;have h0':¬x.ts=[]:=fun q=>h0 (by rw[q];rfl);simp[s255,h0',iJ]
  let J:Nat->List D->A1->Prop:=fun q fr S=>∃k b2 n o b12,fr=B0 50 [(2,b2),(3,Z9 n (QR (Jq tx) x.ts k) o),(9,CL e x),(10,.i .i64 x.ts.length),(11,.i .i64 (k:Nat)),(12,b12)]/\k+q=x.ts.length/\Mj S n (QR (Jq tx) x.ts k).length o
  refine AW J ?_ x.ts.length _ _ ⟨0,_,true,.ro,_,by rw[Gj];rfl,by simp,.inl ⟨rfl,by simp[Gj],rfl⟩⟩;intro q fr S hJ;obtain⟨k,b2,n,o,b12,C7,hk,hL⟩:=hJ;rw[C7];rw[<-Ay,e255_0];simp[vC];split<;>rename_i h
  .obtain⟨t,ht⟩:=AZ (l:=x.ts) (k:=k) (by omega);obtain⟨h1,h2,h3⟩:=H t (gC ht);obtain⟨T,hT⟩:∃T,T=QR (Jq tx) x.ts k:=⟨_,rfl⟩
   have hTl:T.length<=60000:=by have:=R5 (Jq tx) x.ts k;rw[hT];omega
   rw[<-hT] at hL ⊢;have PJ:QR (Jq tx) x.ts (k+1)=T++[Jq tx t]:=by rw[Oz _ ht,hT]
   obtain⟨o',S',a1,a2,a3⟩:=fD (hL.push (B9.box (Cj e t))) hTl (Jq tx t);have hc:=v314 t.c h2;have hi:=Lib.itoa_length_le t.c h2.1 h2.2;simp[Bn e _ ht];by_cases z:t.fs.length=0
   .have ef:Jq tx t=Lib.itoa t.c:=if_pos z;rw[ef] at a1 a2 PJ;have z0:t.fs=[]:=List.length_eq_zero_iff.1 z;simp[z0,jn,hc,a1];rw[Bz (k:=k) (by unfold Bd;omega)];exact⟨q-1,by omega,k+1,_,false,o',_,by rw[PJ],by omega,by rw[PJ];exact a2⟩
   .have z':¬t.fs=[]:=fun q=>z (by rw[q];rfl);by_cases c1:t.c=1
    .have ef:Jq tx t=HZ tx t.fs:=by rw[Jq,if_neg z,if_pos c1]
     rw[ef] at a1 a2 PJ;simp[z',c1,jn,h1,a1];rw[Bz (k:=k) (by unfold Bd;omega)];exact⟨q-1,by omega,k+1,_,false,o',_,by rw[PJ],by omega,by rw[PJ];exact a2⟩
    .have ef:Jq tx t=Lib.itoa t.c++[42]++HZ tx t.fs:=by rw[Jq,if_neg z,if_neg c1]
     rw[ef] at a1 a2 PJ;simp[z',c1,jn,h1,hc];rw[BP (by simp only[length_cons,length_nil];omega)];simp only[A5];rw[BP (by simp only[length_append,length_cons,length_nil];omega)];simp only[A5,Sc,a1,EB];rw[Bz (k:=k) (by unfold Bd;omega)];exact⟨q-1,by omega,k+1,_,false,o',_,by rw[PJ],by omega,by rw[PJ];exact a2⟩
  .rw[RU _ (by omega)] at hL ⊢;have hj:=sn n (x.ts.map (Jq tx)) o [32,43,32] (by omega) (by simp;omega);simp only[AA4,iV,Av,Ad,hj,A5];simp
end
theorem gG{Z:Type}{e:Z->D}{ok sh:Z->Prop}{w:Z->Nat}{tx:Z->List UInt8}(he:GE e)(hT:∀a,ok a->sh a->w a<=5000->A0 (call dp) 255 [e a]=some (.s (tx a)))
  (hL:∀a,ok a->(tx a).length<=100*w a+1) (nl:Bool) (fs:List (Fc Z)) (Bg:∀f,f∈fs->KU ok f) (hsh:∀f,f∈fs->lN sh f) (hw:fs.length+(fs.map (Kw w)).sum<=5000) :
  A0 (call dp) 120 [BI e nl fs]=some (.s (HZ tx fs)):=by
 refine v120 he nl fs (by omega) (fun f hf=>?_) ?_
 .have ho:=Bg f hf;have hs:=hsh f hf;have h1:Kw w f<=5000:=by have:=Ea (Kw w) hf;omega
  have hl:=Zp hL ho;have h2:f.bound.text.length<=5000:=by simp only[Kw] at h1;omega
  refine⟨v189 he f ho.row (fun a ha=>hT a (ho.args a ha) (hs.args a ha) (js h1 ha)) (by have:=V0 h1;omega) (fun p hp=>?_) ⟨ho.bound,by omega⟩ hs.kind (by omega),ho.exp,by omega⟩;have h3:=Yb h1 hp;have h4:=hL p.2 (ho.items p hp).2
  have h5:p.1.text.length<=5000:=by have:=Ea (jS w) hp;simp only[Kw,jS] at h1 this;omega
  exact⟨hT p.2 (ho.items p hp).2 (hs.items p hp) h3,(ho.items p hp).1,by omega,by omega⟩
 .have:=T9 hL Bg;omega
theorem v255A:∀n (x:Eu n),Bf n x->VK n x->CD n x<=5000->A0 (call dp) 255 [As n x]=some (.s (TO n x))
 |0,x=>nomatch x
 |n+1,x=>fun ho hs hw=>by
  have hts:=Xa (x:=x) hw;refine v255 (Az n) x (by omega) (fun t ht=>?_) ?_
  .have h1:=PY hw ht;have Lp:=ho.ts t ht;have h2:t.fs.length+(t.fs.map (Kw (CD n))).sum<=5000:=by simp only[Hn] at h1;omega
   refine⟨gG (Az n) (v255A n) (Kc n) t.nl t.fs Lp.fs (hs t ht) h2,Lp.c,?_⟩;have:=T9 (Kc n) Lp.fs;omega
  .have h3:(Sz (TO n) x).length<=100*CD (n+1) x+1:=Kc (n+1) x ho;omega
theorem v120A(n:Nat)(nl:Bool)(fs:List (Fc (Eu n)))(Bg:∀f,f∈fs->KU (Bf n) f)(hsh:∀f,f∈fs->lN (VK n) f)(hw:fs.length+(fs.map (Kw (CD n))).sum<=5000) :
  A0 (call dp) 120 [BI (As n) nl fs]=some (.s (HZ (TO n) fs)):=gG (Az n) (v255A n) (Kc n) nl fs Bg hsh hw
end Go.Proofs.YtjniafcnjbbomaaGreatDoor.DE.V
namespace Go.Proofs.YtjniafcnjbbomaaGreatDoor.DE
open Go
def s63:Cn:=fun cf a0 a1 S Post=>OX (A4 .quo .num (.n 1152921504606846976) a1) fun x1=>OX (A4 .gtr .num a0 x1) fun x2=>WB x2
 (Post (.n 1152921504606846976) S)
 (OX (A4 .mul .num a0 a1) fun x3=>Post x3 S)
def j63:J2 63 s63:=UE d63
abbrev m64(a0 a1 a4 a5 a15:D):List D:=B0 75 [(0,a0),(1,a1),(4,a4),(5,a5),(15,a15)]
def vL:V7:=fun cf a0 a1 a4 a5 a15 S Q=>OX (Lr a5 S) fun p1=>OX (AV 1 false [p1.1,a0,a1]) fun x2=>OX (A0 cf 118 [(.sl 1 false x2 .ro)]) fun x3=>Q .ret (m64 .top .top x3 .top .top) p1.2
def e64_r0:N5 Rx m64 vL:=kN5
def iE:V7:=fun cf a0 a1 a4 a5 a15 S Q=>OX (AK false a0) fun x4=>OX (A4 .gtr .num x4 (.n 0)) fun x5=>OX (A8 x5 true (some a1)) fun x6=>OX (A8 x5 true (AK false x6)) fun x7=>OX (A8 x5 true (A4 .gtr .num x7 (.n 0))) fun x8=>OX (AU x5 x8 (.b false)) fun x9=>WB x9
 (OX (Ak 11 a0 (.n 0)) fun x10=>OX (AO 0 x10) fun x11=>OX (AE S 10 true x11) fun x12=>OX (Ak 11 a1 (.n 0)) fun x13=>OX (AO 0 x13) fun x14=>OX (AE S 10 true x14) fun x15=>OX (A0 cf 116 [x12,x15]) fun x16=>OX (A4 .lss .num x16 (.n 0)) fun x17=>jn (fun(y19 y20 y21 y22:D) (S23:A1)=>Q .normal (m64 y19 y20 y21 y22 .top) S23) fun k18=>WB x17
 (OX (Ak 11 a0 (.n 0)) fun x24=>OX (AE S 11 true x24) fun x25=>OX (AV 11 true [x25]) fun x26=>OX (GG 11 a0 (some (.n 1)) none) fun x27=>OX (Be 11 false a5 (.sl 11 false x26 .ro) S) fun p29=>k18 x27 a1 a4 p29.1 p29.2)
 (OX (A4 .gtr .num x16 (.n 0)) fun x30=>WB x30
 (OX (Ak 11 a1 (.n 0)) fun x31=>OX (AE S 11 true x31) fun x32=>OX (AV 11 true [x32]) fun x33=>OX (GG 11 a1 (some (.n 1)) none) fun x34=>OX (Be 11 false a5 (.sl 11 false x33 .ro) S) fun p36=>k18 a0 x34 a4 p36.1 p36.2)
 (OX (Ak 11 a0 (.n 0)) fun x37=>OX (AE S 11 true x37) fun x38=>al [.n 0,.n 0,.n 0,.z 1,.n 0,.z 4,.n 0,.n 0,.n 0,.s [],.n 0] S fun x39 S40=>OX (Ax S40 11 true x39 x38) fun S42=>OX (AO 0 x39) fun x43=>OX (AE S42 10 true x43) fun x44=>OX (A0 cf 115 [x44]) fun x45=>OX (ES .not x45) fun x46=>jn (fun(y48 y49 y50 y51 y52 y53:D) (S54:A1)=>OX (AE S54 11 true y52) fun x55=>OX (AV 11 true [x55]) fun x56=>OX (GG 11 y48 (some (.n 1)) none) fun x57=>OX (GG 11 y49 (some (.n 1)) none) fun x58=>OX (Be 11 false y51 (.sl 11 false x56 .ro) S54) fun p60=>k18 x57 x58 y50 p60.1 p60.2) fun k47=>WB x46
 (OX (AO 10 x39) fun x61=>OX (AE S42 1 false x61) fun x62=>OX (Ak 11 a1 (.n 0)) fun x63=>OX (AO 10 x63) fun x64=>OX (AE S42 1 false x64) fun x65=>OX (A4 .add .num x62 x65) fun x66=>OX (AO 10 x39) fun x67=>OX (Ax S42 1 false x67 x66) fun S69=>k47 a0 a1 a4 a5 x39 D.top S69)
 (k47 a0 a1 a4 a5 x39 x46 S42))))
 (Q (.exit 0) (m64 a0 a1 a4 a5 x9) S)
def e64_0:L5 qP m64 iE:=kL5
def s64:Cn:=fun cf a0 a1 S Post=>W cf (.loop [] qP) (m64 a0 a1 .top (.z 11) .top) S (Af 0 (QS cf Rx (Aw [.t 4] Post)))
def j64:J2 64 s64:=UE d64
abbrev TC(a0 a2 a3 a6 a9 a10 a11 a12 a25 a26 a27 a28:D):List D:=B0 36 [(0,a0),(2,a2),(3,a3),(6,a6),(9,a9),(10,a10),(11,a11),(12,a12),(25,a25),(26,a26),(27,a27),(28,a28)]
def jd:N4:=fun cf a0 a2 a3 a6 a9 a10 a11 a12 a25 a26 a27 a28 S Q=>Q .ret (TC a0 a6 a3 .top a9 a10 a11 a12 .top .top .top .top) S
def zV:N12 R7 TC jd:=mf
def vK:N4:=fun cf a0 a2 a3 a6 a9 a10 a11 a12 a25 a26 a27 a28 S Q=>OX (A4 .lss .num a27 a26) fun x1=>WB x1
 (OX (Ak 1 a25 a27) fun x2=>OX (AE S 1 false x2) fun x3=>OX (Be 11 false a6 x3 S) fun p5=>OX (A4 .add .num a27 (.n 1)) fun x6=>Q .normal (TC a0 a2 a3 p5.1 a9 a10 a11 a12 a25 a26 x6 .top) p5.2)
 (Q (.exit 2) (TC a0 a2 a3 a6 a9 a10 a11 a12 a25 a26 a27 x1) S)
def e118_0:L12 bd TC vK:=mq
def kS:N4:=fun cf a0 a2 a3 a6 a9 a10 a11 a12 a25 a26 a27 a28 S Q=>OX (cf 186 [(.z 11),a3] S) fun p8=>OX (AK false a0) fun x9=>W cf (.loop [] bd) (TC .top a2 .top p8.1 .top .top .top .top a0 x9 (.n 0) a28) p8.2 (Af 2 (QS cf R7 Q))
def AAc:N12 RZ TC kS:=mf
def qL:N4:=fun cf a0 a2 a3 a6 a9 a10 a11 a12 a25 a26 a27 a28 S Q=>OX (A4 .lss .num a11 a10) fun x10=>WB x10
 (OX (Ak 1 a9 a11) fun x11=>OX (AE S 1 false x11) fun x12=>OX (AK false x12) fun x13=>OX (A4 .add .num a3 x13) fun x14=>OX (A4 .lss .num x14 (.n 0)) fun x15=>WB x15
 (False)
 (OX (A4 .add .num a11 (.n 1)) fun x16=>Q .normal (TC a0 a2 x14 a6 a9 a10 x16 .top a25 a26 a27 a28) S))
 (Q (.exit 0) (TC a0 a2 a3 a6 a9 a10 a11 x10 a25 a26 a27 a28) S)
def e118_1:L12 ep TC qL:=mq
def s118:EV:=fun cf a0 S Post=>OX (AK false a0) fun x17=>W cf (.loop [] ep) (TC a0 .top (.n 0) .top a0 x17 (.n 0) .top .top .top .top .top) S (Af 0 (QS cf RZ (Aw [.t 2] Post)))
def j118:J1 118 s118:=xx d118
abbrev m66(a2 a3 a4 a11 a12 a13 a14:D):List D:=B0 52 [(2,a2),(3,a3),(4,a4),(11,a11),(12,a12),(13,a13),(14,a14)]
def wG:Sx:=fun cf a2 a3 a4 a11 a12 a13 a14 S Q=>OX (cf 121 [a4,(.fn 114 [])] S) fun p2=>OX (Lr a4 p2.2) fun p3=>Q .ret (m66 p3.1 .top .top .top .top .top .top) p3.2
def e66_r0:N7 WO m66 wG:=yH
def s66_0:Sx:=fun cf a2 a3 a4 a11 a12 a13 a14 S Q=>OX (A4 .lss .num a13 a12) fun x4=>WB x4
 (OX (Ak 2 a11 a13) fun x5=>OX (AE S 2 true x5) fun x6=>al [.n 0,.z 11] S fun x7 S8=>OX (Ax S8 2 true x7 x6) fun S10=>OX (AO 1 x7) fun x11=>OX (AE S10 1 false x11) fun x12=>OX (A0 cf 120 [x12]) fun x13=>OX (ON (.one .s) true (.n 0) S10 a3 x13) fun x14=>OX (Ag x14 0) fun x15=>OX (Ag x14 1) fun x16=>WB x16
 (OX (Ak 2 a4 x15) fun x17=>OX (AO 0 x17) fun x18=>OX (AE S10 1 false x18) fun x19=>OX (AO 0 x7) fun x20=>OX (AE S10 1 false x20) fun x21=>OX (A4 .add .num x19 x21) fun x22=>OX (mnD x22 (.n 1152921504606846976)) fun x23=>OX (Ak 2 a4 x15) fun x24=>OX (AO 0 x24) fun x25=>OX (Ax S10 1 false x25 x23) fun S27=>OX (A4 .add .num a13 (.n 1)) fun x28=>Q .normal (m66 a2 a3 a4 a11 a12 x28 .top) S27)
 (OX (AK false a4) fun x29=>OX (O8 (.one .s) S10 a3 x13 x29) fun S31=>OX (AE S31 2 true x7) fun x32=>OX (AV 2 true [x32]) fun x33=>OX (Be 2 true a4 (.sl 2 false x33 .ro) S31) fun p35=>OX (A4 .add .num a13 (.n 1)) fun x36=>Q .normal (m66 a2 a3 p35.1 a11 a12 x36 .top) p35.2))
 (Q (.exit 0) (m66 a2 a3 a4 a11 a12 a13 x4) S)
def e66_0:L7 uh m66 s66_0:=yx
def s66:EV:=fun cf a0 S Post=>mm S fun x37 S38=>OX (AK false a0) fun x39=>W cf (.loop [] uh) (m66 .top x37 (.z 2) a0 x39 (.n 0) .top) S38 (Af 0 (QS cf WO (Aw [.t 2] Post)))
def e66:E1 d66 s66:=Uf
def j66:J1 66 s66:=xx d66 (e:=e66)
def s121:Cn:=fun cf a0 a1 S Post=>OX (AK false a0) fun x1=>OX (BA .u64 x1) fun x2=>OX (A0 cf 193 [x2]) fun x3=>OX (cf 192 [a0,(.n 0),x1,x3,a1] S) fun p5=>Post (.AY []) p5.2
def f121:F2 121 s121:=eR d121
def s65:EV:=fun cf a0 S Post=>OX (A0 cf 113 [a0]) fun x1=>OX (ES .not x1) fun x2=>WB x2
 (Post (.AY [(.z 2),(.n 6)]) S)
 (OX (A0 cf 119 [a0]) fun x3=>Post (.AY [x3,(.n 0)]) S)
def e65:E1 d65 s65:=Uf
def i65:I1 65 s65:=JF d65 (e:=e65)
abbrev Pt(a2 a3 a5 a6 a8 a9 a10 a11 a18 a19 a20:D):List D:=B0 42 [(2,a2),(3,a3),(5,a5),(6,a6),(8,a8),(9,a9),(10,a10),(11,a11),(18,a18),(19,a19),(20,a20)]
def jK:Pm:=fun cf a2 a3 a5 a6 a8 a9 a10 a11 a18 a19 a20 S Q=>OX (Lr a6 S) fun p1=>OX (AO 0 a5) fun x2=>OX (AE p1.2 1 false x2) fun x3=>OX (B8 [.n 0,.z 11] [(0,1,false,x3),(1,1,false,p1.1)]) fun x4=>OX (AV 2 true [(.agg x4)]) fun x5=>OX (Be 2 false a3 (.sl 2 false x5 .ro) p1.2) fun p7=>Q .normal (Pt a2 p7.1 .top .top a8 a9 a10 a11 .top .top .top) p7.2
def AAM:N11 RP Pt jK:=rS
def jC:Pm:=fun cf a2 a3 a5 a6 a8 a9 a10 a11 a18 a19 a20 S Q=>OX (A4 .add .num a10 (.n 1)) fun x8=>Q .normal (Pt a2 a3 a5 a6 a8 a9 x8 a11 a18 a19 a20) S
def zX:N11 X0 Pt jC:=rS
def qh:Pm:=fun cf a2 a3 a5 a6 a8 a9 a10 a11 a18 a19 a20 S Q=>OX (A4 .lss .num a19 a18) fun x9=>WB x9
 (OX (Ak 11 a6 a19) fun x10=>OX (AO 0 x10) fun x11=>OX (AE S 10 true x11) fun x12=>OX (A0 cf 188 [x12]) fun x13=>OX (Ak 11 a6 a19) fun x14=>OX (AO 0 x14) fun x15=>OX (Ax S 10 true x15 x13) fun S17=>OX (A4 .add .num a19 (.n 1)) fun x18=>Q .normal (Pt a2 a3 a5 a6 a8 a9 a10 a11 a18 x18 .top) S17)
 (Q (.exit 2) (Pt a2 a3 a5 a6 a8 a9 a10 a11 a18 a19 x9) S)
def e119_0:L11 de Pt qh:=yR
def iW:Pm:=fun cf a2 a3 a5 a6 a8 a9 a10 a11 a18 a19 a20 S Q=>Q .ret (Pt a3 .top a5 a6 .top .top .top .top a18 a19 a20) S
def zY:N11 RS Pt iW:=rS
def pV:Pm:=fun cf a2 a3 a5 a6 a8 a9 a10 a11 a18 a19 a20 S Q=>OX (A4 .lss .num a10 a9) fun x19=>WB x19
 (OX (Ak 2 a8 a10) fun x20=>OX (AE S 2 true x20) fun x21=>al [.n 0,.z 11] S fun x22 S23=>OX (Ax S23 2 true x22 x21) fun S25=>OX (AO 1 x22) fun x26=>OX (AE S25 1 false x26) fun x27=>OX (cf 1187 [x27] S25) fun p29=>OX (AK false p29.1) fun x30=>W cf (.loop [] de) (Pt a2 a3 x22 p29.1 a8 a9 a10 .top x30 (.n 0) a20) p29.2 (Af 2 (QS cf RP (Af 1 (QS cf X0 Q)))))
 (Q (.exit 0) (Pt a2 a3 a5 a6 a8 a9 a10 x19 a18 a19 a20) S)
def e119_1:L11 bs Pt pV:=yR
def s119:EV:=fun cf a0 S Post=>OX (AK false a0) fun x31=>W cf (.loop [] bs) (Pt .top (.z 2) .top .top a0 x31 (.n 0) .top .top .top .top) S (Af 0 (QS cf RS (Aw [.t 2] Post)))
def i119:I1 119 s119:=JF d119
abbrev Tq(a1 a2 a11 a12 a13 a32 a33 a34:D):List D:=B0 50 [(1,a1),(2,a2),(11,a11),(12,a12),(13,a13),(32,a32),(33,a33),(34,a34)]
def jE:PW:=fun cf a1 a2 a11 a12 a13 a32 a33 a34 S Q=>OX (Lr a1 S) fun p1=>OX (AE p1.2 10 true p1.1) fun x2=>OX (Ax p1.2 10 true a2 x2) fun S4=>Q .ret (Tq .top a2 a11 a12 a13 .top .top .top) S4
def e188_r0:N8 RJ Tq jE:=uS
def wT:PW:=fun cf a1 a2 a11 a12 a13 a32 a33 a34 S Q=>OX (A4 .lss .num a33 a32) fun x5=>WB x5
 (OX (AO 5 a1) fun x6=>OX (AE S 1 false x6) fun x7=>OX (AO 5 a1) fun x8=>OX (AE S 1 false x8) fun x9=>OX (Ak 4 x9 a33) fun x10=>OX (AO 3 x10) fun x11=>OX (AE S 1 false x11) fun x12=>OX (A0 cf 119 [x12]) fun x13=>OX (Ak 4 x7 a33) fun x14=>OX (AO 3 x14) fun x15=>OX (Ax S 1 false x15 x13) fun S17=>OX (A4 .add .num a33 (.n 1)) fun x18=>Q .normal (Tq a1 a2 a11 a12 a13 a32 x18 .top) S17)
 (Q (.exit 2) (Tq a1 a2 a11 a12 a13 a32 a33 x5) S)
def e188_0:L8 dM Tq wT:=uA
def gy:PW:=fun cf a1 a2 a11 a12 a13 a32 a33 a34 S Q=>OX (AO 5 a1) fun x19=>OX (AE S 1 false x19) fun x20=>OX (cf 1253 [x20] S) fun p22=>OX (AO 5 a1) fun x23=>OX (Ax p22.2 1 false x23 p22.1) fun S25=>OX (AO 5 a1) fun x26=>OX (AE S25 1 false x26) fun x27=>OX (AK false x27) fun x28=>W cf (.loop [] dM) (Tq a1 a2 .top .top .top x28 (.n 0) a34) S25 (Af 2 (QS cf RJ Q))
def yj:N8 RE Tq gy:=uS
def wZ:PW:=fun cf a1 a2 a11 a12 a13 a32 a33 a34 S Q=>OX (A4 .lss .num a12 a11) fun x29=>WB x29
 (OX (AO 3 a1) fun x30=>OX (AE S 1 false x30) fun x31=>OX (AO 3 a1) fun x32=>OX (AE S 1 false x32) fun x33=>OX (Ak 1 x33 a12) fun x34=>OX (AE S 1 false x34) fun x35=>OX (A0 cf 119 [x35]) fun x36=>OX (Ak 1 x31 a12) fun x37=>OX (Ax S 1 false x37 x36) fun S39=>OX (A4 .add .num a12 (.n 1)) fun x40=>Q .normal (Tq a1 a2 a11 x40 .top a32 a33 a34) S39)
 (Q (.exit 0) (Tq a1 a2 a11 a12 x29 a32 a33 a34) S)
def e188_1:L8 cn Tq wZ:=uA
def s188:EV:=fun cf a0 S Post=>Cg 10 true a0 S fun x41 S42=>al [.n 0,.n 0,.n 0,.z 1,.n 0,.z 4,.n 0,.n 0,.n 0,.s []] S42 fun x43 S44=>OX (AO 3 x41) fun x45=>OX (AE S44 1 false x45) fun x46=>OX (cf 1252 [x46] S44) fun p48=>OX (AO 3 x41) fun x49=>OX (Ax p48.2 1 false x49 p48.1) fun S51=>OX (AO 3 x41) fun x52=>OX (AE S51 1 false x52) fun x53=>OX (AK false x53) fun x54=>W cf (.loop [] cn) (Tq x41 x43 x54 (.n 0) .top .top .top .top) S51 (Af 0 (QS cf RE (Aw [.cell 2 10 true] Post)))
def i188:I1 188 s188:=JF d188
def s1187:EV:=fun cf a0 S Post=>OX (A4 .eql .sl a0 (.z 11)) fun x1=>WB x1
 (Post (.z 11) S)
 (OX (AV 11 true []) fun x2=>OX (Be 11 true (HE 11 x2 S).1 a0 (HE 11 x2 S).2) fun p4=>Post p4.1 p4.2)
def f1187:F1 1187 s1187:=mF1 d1187
def s1252:EV:=fun cf a0 S Post=>OX (A4 .eql .sl a0 (.z 1)) fun x1=>WB x1
 (Post (.z 1) S)
 (OX (AV 1 false []) fun x2=>OX (Be 1 true (HE 1 x2 S).1 a0 (HE 1 x2 S).2) fun p4=>Post p4.1 p4.2)
def f1252:F1 1252 s1252:=mF1 d1252
def s1253:EV:=fun cf a0 S Post=>OX (A4 .eql .sl a0 (.z 4)) fun x1=>WB x1
 (Post (.z 4) S)
 (OX (AV 4 true []) fun x2=>OX (Be 4 true (HE 4 x2 S).1 a0 (HE 4 x2 S).2) fun p4=>Post p4.1 p4.2)
def f1253:F1 1253 s1253:=mF1 d1253
end Go.Proofs.YtjniafcnjbbomaaGreatDoor.DE
namespace Go.Proofs.YtjniafcnjbbomaaGreatDoor.DE.V
open Go BT
theorem AAh{k:Nat}{n n':Bool}{xs ys:List (List D)}{o o':JB}{S:A1}(h:Mj S n xs.length o)(hl:xs.length+ys.length<=1000000) :
  ∃n2 o2 S',Be k false (.sl k n xs o) (.sl k n' ys o') S=some (.sl k n2 (xs++ys) o2,S')/\Mj S' n2 (xs++ys).length o2/\Gi S S'/\(n2=true->xs++ys=[]):=by
 by_cases hy:ys=[]
 .subst hy;rcases h with⟨h1,h2,h3⟩|⟨h1,t,ho,ht⟩
  .subst h1 h3;have:xs=[]:=List.length_eq_zero_iff.1 h2;subst this;exact⟨true,.ro,S,by simp[Be,AP],.inl ⟨rfl,rfl,rfl⟩,Gi.refl _,fun _=>rfl⟩
  .subst h1 ho;have Ap:=AJ ht;refine⟨false,.tok S.length,.tok true::sset S t (.tok false),?_,.inr ⟨rfl,_,rfl,?_⟩,?_,by simp⟩
   .have hm:xs.length<=AP:=by simp[AP];simp at hl;omega
    simp[Be,ht,hm]
   .have:=Aj (.tok true) (sset S t (.tok false));rw[BR] at this;exact this
   .intro id cs hid;have CF:id≠t:=by rintro rfl;rw[ht] at hid;cases hid
    exact AM (by rw[AB _ CF];exact hid)
 .obtain⟨t,S',q1,q2,q3,_⟩:=LR (k:=k) (n':=n') (o':=o') h (by simp[AP];omega) hy;exact⟨false,.tok t,S',q1,.inr ⟨rfl,t,rfl,q2⟩,q3,by simp⟩
section
variable {Z:Type}(e:Z->D)
def mS(n:Bool)(L:List (Fc Z))(o:JB):D:=.sl 11 n (L.map (EF e)) o
theorem eFo_nil:D.sl 11 true [] .ro=mS e true [] .ro:=rfl
end
section
variable {Z:Type}{e:Z->D}
theorem Sd{S:A1}{n:Bool}{o:JB}{L:List (Fc Z)}(h:Mj S n L.length o)(M:List (Fc Z))(n':Bool)(o':JB)(hl:L.length+M.length<=1000000) :
  ∃n2 o2 S',Be 11 false (mS e n L o) (.sl 11 n' (M.map (EF e)) o') S=some (mS e n2 (L++M) o2,S')/\Mj S' n2 (L++M).length o2/\Gi S S'/\(n2=true->L++M=[]):=by
 obtain⟨n2,o2,S',q1,q2,q3,q4⟩:=AAh (k:=11) (n:=n) (n':=n') (xs:=L.map (EF e)) (ys:=M.map (EF e)) (o':=o') (by simpa using h) (by simpa using hl);refine⟨n2,o2,S',by rw[mS,q1,mS,map_append],by simpa using q2,q3,fun q=>?_⟩;have:=q4 q;rw[<-map_append] at this;exact List.map_eq_nil_iff.1 this
def kE(ls:List (Bool×List (Fc Z))):D:=.sl 1 false (ls.map fun p=>[BI e p.1 p.2]) .ro
theorem kJ{ls:List (Bool×List (Fc Z))}{k:Nat}{p:Bool×List (Fc Z)}(h:ls[k]? = some p):Ak 1 (kE (e:=e) ls) (.i .i64 k)=some (.el [BI e p.1 p.2] 0):=by simp[kE,Ak,h]
@[simp] theorem Zg(ls:List (Bool×List (Fc Z))):AK false (kE (e:=e) ls)=some (.i .i64 ls.length):=by simp[kE,AK]
def UB(p:Bool×List (Fc Z)):List (Fc Z):=p.2
theorem v186(S:A1)(n:Nat)(h:n<=1000000):∃n2 o2 S',call dp 186 [.sl 11 true [] .ro,.i .i64 n] S=some (mS e n2 [] o2,S')/\Mj S' n2 0 o2:=by
 rw[LO];have hd:dp 186=some d186:=rfl;rw[hd];simp only;rw[if_neg (by rintro⟨q,_⟩;exact absurd q (show(2:Nat)≠2011 by decide))];unfold Bb;rw[if_neg (by decide),if_neg (by decide),if_neg (by decide),if_neg (by decide),if_neg (by decide),if_pos (by decide)];have hk:(11:Nat)=d186.np-2000:=rfl;simp only;rw[if_pos hk];by_cases h0:n=0
 .subst h0;exact⟨true,.ro,S,by simp[mS],.inl ⟨rfl,rfl,rfl⟩⟩
 .rw[if_pos ⟨by omega,by omega⟩];exact⟨false,.tok S.length,.tok true::S,rfl,.inr ⟨rfl,_,rfl,by simp⟩⟩
theorem wrapQ{a b:Nat}(h:a+b<=1000000):IntKind.wrap .i64 ((a:Int)+b)=((a+b:Nat):Int):=by rw[wrap64 ⟨by omega,by omega⟩];omega
set_option maxHeartbeats 1000000 in
theorem v118(he:GE e)(ls:List (Bool×List (Fc Z)))(hl:ls.length<=1000)(ht:(ls.flatMap UB).length<=500000) :
  ∃n,A0 (call dp) 118 [kE (e:=e) ls]=some (BI e n (ls.flatMap UB))/\(n=true->ls.flatMap UB=[]):=by
 suffices hh:∃d,A0 (call dp) 118 [kE (e:=e) ls]=some d/\∃n,d=BI e n (ls.flatMap UB)/\(n=true->ls.flatMap UB=[]) by obtain⟨d,h1,n,rfl,h2⟩:=hh;exact⟨n,h1,h2⟩
 have hnr:AG (kE (e:=e) ls)=true:=by simp only[kE,DE.AG,Bool.true_and];exact GR _ _ fun x _=>by simp[A9,EH he]
 apply j118 _ _ (by show A9 [kE (e:=e) ls]=true;simp[A9,hnr]) (by rintro d ⟨n,rfl,_⟩;exact EH he _ _);have hs:strip (kE (e:=e) ls)=kE (e:=e) ls:=rfl;simp only[s118,hs,Zg,A5];generalize hR:QS (call dp) RZ _=R
 let J:Nat->List D->A1->Prop:=fun q fr S=>∃k b12,fr=B0 36 [(0,kE (e:=e) ls),(2,.top),(3,.i .i64 ((K6 UB ls k).length:Nat)),(6,.top),(9,kE (e:=e) ls),(10,.i .i64 ls.length),(11,.i .i64 (k:Nat)),(12,b12),(25,.top),(26,.top),(27,.top),(28,.top)]/\k+q=ls.length/\S=[]
 refine AW J ?_ ls.length _ _ ⟨0,_,rfl,by simp,rfl⟩;intro q fr S hJ;obtain⟨k,b12,C7,hk,rfl⟩:=hJ;rw[C7];rw[<-Ay,e118_1];obtain⟨m,hm⟩:∃m,m=(K6 UB ls k).length:=⟨_,rfl⟩
 rw[<-hm];simp[qL];split<;>rename_i h
 .obtain⟨p,hp⟩:=AZ (l:=ls) (k:=k) h;have hz:=HN UB hp;have hz2:(K6 UB ls (k+1)).length=m+p.2.length:=by rw[Eb _ hp,hm];simp[UB]
  have hz3:(UB p).length=p.2.length:=rfl;simp[kJ hp];rw[wrapQ (by omega),Bz (k:=k) (by unfold Bd;omega)];exact⟨by omega,q-1,by omega,k+1,_,by rw[hz2],by omega,rfl⟩
 .have hm2:m=(ls.flatMap UB).length:=by rw[hm,HR _ (by omega)]
  rw[<-hR];simp only[Ad,AAc,kS];obtain⟨n2,o2,S2,g1,g2⟩:=v186 (e:=e) [] m (by omega);simp only[g1,A5,Zg];generalize hR2:QS (call dp) R7 _=R2
  let J2:Nat->List D->A1->Prop:=fun q fr S=>∃k n o b28,fr=B0 36 [(0,.top),(2,.top),(3,.top),(6,mS e n (K6 UB ls k) o),(9,.top),(10,.top),(11,.top),(12,.top),(25,kE (e:=e) ls),(26,.i .i64 ls.length),(27,.i .i64 (k:Nat)),(28,b28)]/\k+q=ls.length/\Mj S n (K6 UB ls k).length o/\(0<k->n=true->K6 UB ls k=[])
  refine AW J2 ?_ ls.length _ _ ⟨0,n2,o2,_,rfl,by simp,by simpa[K6] using g2,by simp⟩;intro q fr S hJ;obtain⟨k,n,o,b28,C7,hk,hL,hn⟩:=hJ;rw[C7];rw[<-Ay,e118_0];obtain⟨F,hF⟩:∃F,F=K6 UB ls k:=⟨_,rfl⟩
  rw[<-hF] at hL hn ⊢;simp[vK];split<;>rename_i h
  .obtain⟨p,hp⟩:=AZ (l:=ls) (k:=k) h;have hz:=HN UB hp;have hz2:K6 UB ls (k+1)=F++p.2:=by rw[Eb _ hp,hF];rfl
   have hz3:(UB p).length=p.2.length:=rfl;obtain⟨n3,o3,S3,q1,q2,q3,q4⟩:=Sd (e:=e) hL p.2 p.1 .ro (by rw[hF];omega);have q1:Be 11 false (mS e n F o) (BI e p.1 p.2) S=some (mS e n3 (F++p.2) o3,S3):=q1;simp[kJ hp,q1];rw[Bz (k:=k) (by unfold Bd;omega)];exact⟨q-1,by omega,k+1,n3,o3,_,by rw[hz2],by omega,by rw[hz2];exact q2,fun _ hx=>by rw[hz2];exact q4 hx⟩
  .have e1:F=ls.flatMap UB:=by rw[hF,HR _ (by omega)]
   rw[<-hR2];simp only[Ad,zV,jd];by_cases OK:0<k
   .refine⟨n,?_,fun hx=>by rw[<-e1];exact hn OK hx⟩;rw[<-e1];rfl
   .have YD:ls=[]:=List.length_eq_zero_iff.1 (by omega);refine⟨n,?_,fun _=>by rw[YD];rfl⟩;rw[<-e1];rfl
end
theorem v63(a b:Nat)(ha:1<=a/\a<=1152921504606846976)(hb:1<=b/\b<=1152921504606846976) :
  ∃z:Nat,A0 (call dp) 63 [.i .i64 a,.i .i64 b]=some (.i .i64 z)/\1<=z/\z<=1152921504606846976:=by
 suffices hh:∃d,A0 (call dp) 63 [.i .i64 a,.i .i64 b]=some d/\∃z:Nat,d=.i .i64 z/\1<=z/\z<=1152921504606846976 by obtain⟨d,h1,z,rfl,h2⟩:=hh;exact⟨z,h1,h2⟩
 apply j63 _ _ _ (by simp[A9]) (by rintro d ⟨z,rfl,_⟩;rfl)
 have hq:A4 .quo .num (.i .i64 1152921504606846976) (.i .i64 (b:Int))=some (.i .i64 ((1152921504606846976/b:Nat):Int)):=by have:1152921504606846976/b<=1152921504606846976:=Nat.div_le_self _ _;simp only[A4,EI,if_true];have e:(1152921504606846976:Int).tdiv b=((1152921504606846976/b:Nat):Int):=(Int.ofNat_tdiv 1152921504606846976 b).symm;rw[if_neg (by omega),e];generalize 1152921504606846976/b=c at *;rw[wrap64 ⟨by omega,by omega⟩]
 simp only[s63,Cq,hq,A5];have hd:=Nat.div_mul_le_self 1152921504606846976 b
 have aZ:∀q,q=1152921504606846976/b->a<=q->a*b<=1152921504606846976:=fun q hq h=>by rw[<-hq] at hd;exact le_trans (Nat.mul_le_mul_right _ h) hd
 generalize 1152921504606846976/b=q at *;by_cases h:q<a
 .simp[h];exact⟨1152921504606846976,rfl,by omega,by omega⟩
 .have hm:=aZ q rfl (by omega);have hp:1<=a*b:=Nat.mul_pos (by omega) (by omega);have e:(a:Int)*b=((a*b:Nat):Int):=by simp
  have hmul:A4 .mul .num (.i .i64 (a:Int)) (.i .i64 (b:Int))=some (.i .i64 ((a*b:Nat):Int)):=by simp only[A4,EI,if_true,e];generalize a*b=m at *;rw[wrap64 ⟨by omega,by omega⟩]
  generalize a*b=m at *;simp[h,hmul];exact⟨m,rfl,hp,hm⟩
section
variable {Z:Type}(c:Z->Z->Int)
def mrg(f g:Fc Z):Fc Z:=if idem f=true then f else{ f with exp:=IntKind.wrap .i64 (f.exp+g.exp) }
def BS:List (Fc Z)->List (Fc Z)->List (Fc Z)
 |[],b=>b
 |a,[]=>a
 |x::a,y::b=>if EU c x y<0 then x::BS a (y::b) else if 0<EU c x y then y::BS (x::a) b else mrg x y::BS a b
termination_by a b=>a.length+b.length
theorem Mb(a:List (Fc Z)):BS c a []=a:=by cases a<;>simp[BS]
end
section
variable {Z:Type}{e:Z->D}{ok:Z->Prop}{c:Z->Z->Int}
theorem WY{nl:Bool}{x:Fc Z}{l:List (Fc Z)}:GG 11 (BI e nl (x::l)) (some (.i .i64 1)) none=some (BI e nl l):=by simp only[GG,BI,if_true,bounds,length_map,length_cons];rw[if_pos ⟨by omega,by omega⟩];simp[take_of_length_le]
theorem mP(a b:List (Fc Z)):(BS c a b).length<=a.length+b.length:=by
 induction a,b using BS.induct c with
 |case1 b=>simp[BS]
 |case2 a h=>rw[Mb];simp
 |case3 x a y b h ih=>rw[BS,if_pos h];simp only[length_cons] at *;omega
 |case4 x a y b h h2 ih=>rw[BS,if_neg h,if_pos h2];simp only[length_cons] at *;omega
 |case5 x a y b h h2 ih=>rw[BS,if_neg h,if_neg h2];simp only[length_cons] at *;omega
set_option maxHeartbeats 2000000 in
theorem v64(he:GE e)(H:Nt e ok c)(nl B3:Bool)(a b:List (Fc Z))(ha:∀f,f∈a->KU ok f)(hlen:a.length+b.length<=50000) :
  ∃n,A0 (call dp) 64 [BI e nl a,BI e B3 b]=some (BI e n (BS c a b))/\(n=true->BS c a b=[]):=by
 suffices hh:∃d,A0 (call dp) 64 [BI e nl a,BI e B3 b]=some d/\∃n,d=BI e n (BS c a b)/\(n=true->BS c a b=[]) by obtain⟨d,h1,n,rfl,h2⟩:=hh;exact⟨n,h1,h2⟩
 apply j64 _ _ _ (by simp[A9,EH he]) (by rintro d ⟨n,rfl,_⟩;exact EH he _ _);simp only[s64,E9,eFo_nil (e:=e)];generalize hR:QS (call dp) Rx _=R
 let J:Nat->List D->A1->Prop:=fun q fr S=>∃nA nB A B L n o b15,fr=B0 75 [(0,BI e nA A),(1,BI e nB B),(4,.top),(5,mS e n L o),(15,b15)]/\A.length+B.length=q/\BS c a b=L++BS c A B/\Mj S n L.length o/\L.length+q<=50000/\(∀f,f∈A->KU ok f)
 refine AW J ?_ (a.length+b.length) _ _ ⟨nl,B3,a,b,[],true,.ro,_,rfl,rfl,by simp,.inl ⟨rfl,rfl,rfl⟩,by simpa using hlen,ha⟩;intro q fr S hJ;obtain⟨nA,nB,A,B,L,n,o,b15,C7,hq,hj,hL,hb,Bg⟩:=hJ;rw[C7];rw[<-Ay,e64_0]
 have fin:A=[]\/B=[]->QS (call dp) Rx (Aw [om.t 4] fun d x=>∃n,Ae d=BI e n (BS c a b)/\(n=true->BS c a b=[])) .normal (B0 75 [(0,BI e nA A),(1,BI e nB B),(4,.top),(5,mS e n L o),(15,.b false)]) S:=by
  intro hAB
  have hjj:BS c a b=L++(A++B):=by
   rw[hj];congr 1;rcases hAB with h|h
   .subst h;simp[BS]
   .subst h;rw[Mb];simp
  simp only[Ad,e64_r0,vL];have hz:Lr (mS e n L o) S=some (BI e n L,S):=rfl;have hc:AV 1 false [BI e n L,BI e nA A,BI e nB B]=some ([(n,L),(nA,A),(nB,B)].map fun p=>[BI e p.1 p.2]):=rfl;have KR:[(n,L),(nA,A),(nB,B)].flatMap UB=L++(A++B):=by simp[UB]
  obtain⟨n2,g1,g2⟩:=v118 he [(n,L),(nA,A),(nB,B)] (by simp) (by rw[KR];simp only[length_append];omega);rw[KR,<-hjj] at g1 g2;simp only[hz,A5,hc];have g1':A0 (call dp) 118 [.sl 1 false ([(n,L),(nA,A),(nB,B)].map fun p=>[BI e p.1 p.2]) .ro]=some (BI e n2 (BS c a b)):=g1;simp only[g1',A5];exact⟨n2,rfl,g2⟩
 rw[hR] at fin
 match A,B,hq,hj,Bg,fin with
 |[],B,hq,hj,Bg,fin=>
  have:=fin (.inl rfl);simp[iE];exact this
 |x::A,[],hq,hj,Bg,fin=>
  have:=fin (.inr rfl);simp[iE];exact this
 |x::A,y::B,hq,hj,Bg,fin=>
  clear fin;have hx:=Bg x (by simp);have hcmp:A0 (call dp) 116 [.agg (GZ e x),.agg (GZ e y)]=some (.i .i64 (EU c x y)):=v116 he H x y hx;have i0:Ak 11 (BI e nA (x::A)) (.i .i64 0)=some (.el (EF e x) 0):=Aq e .i64 (n:=0) (by simp);have i1:Ak 11 (BI e nB (y::B)) (.i .i64 0)=some (.el (EF e y) 0):=Aq e .i64 (n:=0) (by simp);have cv:∀f:Fc Z,AV 11 true [.agg (EF e f)]=some ([f].map (EF e)):=fun f=>by simp[AV]
  simp only[length_cons] at hq;simp[iE,i0,i1,hcmp,WY,cv,-map_cons,-map_nil];by_cases c1:EU c x y<0
  .obtain⟨n2,o2,S2,q1,q2,q3,q4⟩:=Sd (e:=e) hL [x] false .ro (by simp;omega);rw[BS,if_pos c1] at hj;simp only[c1,if_true,jn,q1,A5];exact⟨q-1,by omega,nA,nB,A,y::B,L++[x],n2,o2,_,rfl,by simp only[length_cons];omega,by simpa using hj,q2,by simp;omega,fun f hf=>Bg f (by simp[hf])⟩
  .by_cases c2:0<EU c x y
   .obtain⟨n2,o2,S2,q1,q2,q3,q4⟩:=Sd (e:=e) hL [y] false .ro (by simp;omega);rw[BS,if_neg c1,if_pos c2] at hj;simp only[c1,c2,if_true,if_false,jn,q1,A5];exact⟨q-1,by omega,nA,nB,x::A,B,L++[y],n2,o2,_,rfl,by simp only[length_cons];omega,by simpa using hj,q2,by simp;omega,Bg⟩
   .rw[BS,if_neg c1,if_neg c2] at hj;simp only[c1,c2,if_false,jn,v115 he x,A5];cases hi:idem x with
    |true=>
     have em:mrg x y=x:=if_pos hi;rw[em] at hj;obtain⟨n2,o2,S2,q1,q2,q3,q4⟩:=Sd (e:=e) (hL.push (B9.box (EF e x))) [x] false .ro (by simp;omega);simp[WY,cv,-map_cons,-map_nil];simp only[q1,A5];exact⟨q-2,by omega,nA,nB,A,B,L++[x],n2,o2,_,rfl,by omega,by simpa using hj,q2,by simp;omega,fun f hf=>Bg f (by simp[hf])⟩
    |false=>
     have em:mrg x y = { x with exp:=IntKind.wrap .i64 (x.exp+y.exp) }:=if_neg (by simp[hi]);rw[em] at hj;obtain⟨z,hz⟩:∃z:Fc Z,z = { x with exp:=IntKind.wrap .i64 (x.exp+y.exp) }:=⟨_,rfl⟩
     have hf:Bc (EF e x) 10 (.i .i64 (IntKind.wrap .i64 (x.exp+y.exp)))=EF e z:=by rw[hz];rfl
     rw[<-hz] at hj;rw[hf];obtain⟨n2,o2,S2,q1,q2,q3,q4⟩:=Sd (e:=e) (hL.push (B9.box (EF e z))) [z] false .ro (by simp;omega);simp[WY,cv,-map_cons,-map_nil];simp only[q1,A5];exact⟨q-2,by omega,nA,nB,A,B,L++[z],n2,o2,_,rfl,by omega,by simpa using hj,q2,by simp;omega,fun f hf=>Bg f (by simp[hf])⟩
end
theorem sA:Ng (.one .s) (fun l:List UInt8=>.s l):=fun a b=>by simp only[QZ,HV,seq1,Bool.and_self,if_true];congr 1;by_cases h:a=b<;>simp[h]
theorem jD(l:List UInt8):isKey (.one .s) (.s l)=true:=rfl
def eN(n:Nat):D:=.i .i64 (n:Int)
def PE{Z:Type}(e:Z->D):Prop:=∀a,BJ (e a)=true
section
variable {Z:Type}{e:Z->D}
theorem cd(h:PE e)(nl:Bool)(l:List Z):BJ (Bl e nl l)=true:=by simp only[Bl,BJ,Yw,Bool.true_and];exact GU _ fun a _=>by simp[EG,h a]
theorem Yt(h:PE e)(nl:Bool)(l:List (Vl × Z)):BJ (B6 e nl l)=true:=by simp only[B6,BJ,Yw,Bool.true_and];exact GU _ fun p _=>by simp[Gw,EG,BJ,h p.2]
theorem vT(h:PE e)(f:Fc Z):EG (EF e f)=true:=by simp[EF,EG,BJ,cd h,Yt h]
theorem nH(h:PE e)(nl:Bool)(l:List (Fc Z)):BJ (BI e nl l)=true:=by simp only[BI,BJ,Yw,Bool.true_and];exact GU _ fun f _=>vT h f
theorem ZR(h:PE e)(t:Tm Z):EG (Cj e t)=true:=by simp[Cj,EG,BJ,nH h]
theorem PE_An(h:PE e):PE (CL e):=fun x=>by simp only[CL,Gx,BJ,Yw,Bool.true_and];exact GU _ fun t _=>ZR h t
variable (e) in
def fl(O:List (Tm Z)):List D:=(O.map (Cj e)).flatten
theorem Rm(t:Tm Z)(O:List (Tm Z)):fl e (t::O)=.i .i64 t.c::BI e t.nl t.fs::fl e O:=rfl
theorem OA:∀O:List (Tm Z),(fl e O).length=O.length*2
 |[]=>rfl
 |t::O=>by rw[Rm];simp[OA O];omega
theorem ux:∀{O:List (Tm Z)} {i:Nat} {t:Tm Z},O[i]? = some t->(fl e O)[i*2]? = some (.i .i64 t.c)
 |[],_,_,h=>by simp at h
 |x::O,0,t,h=>by simp at h;subst h;rfl
 |x::O,i+1,t,h=>by have:=ux (O:=O) (i:=i) (by simpa using h);rw[Rm,show(i+1)*2=i*2+1+1 by omega];simpa using this
theorem pS:∀{O:List (Tm Z)} {i:Nat} {t:Tm Z} (z:Int),O[i]? = some t->Ai (fl e O) (i*2) [.i .i64 z]=fl e (O.set i { t with c:=z })
 |[],_,_,_,h=>by simp at h
 |x::O,0,t,z,h=>by simp at h;subst h;rfl
 |x::O,i+1,t,z,h=>by have:=pS (O:=O) (i:=i) z (by simpa using h);rw[Rm,show(i+1)*2=i*2+1+1 by omega,List.set_cons_succ,Rm,<-this];rfl
theorem fl_snoc(O:List (Tm Z))(t:Tm Z):fl e (O++[t])=fl e O++Cj e t:=by simp[fl]
variable (e) in
def PX(O:List (Tm Z))(d:D)(S:A1):Prop:=(O=[]/\d=.sl 2 true [] .ro)\/(O≠[]/\∃id,d=.ar 2 id 0 O.length/\AA S id=some (.box (fl e O)))
theorem PX.push{O:List (Tm Z)}{d:D}{S:A1}(x:B9)(h:PX e O d S):PX e O d (x::S):=by
 rcases h with h|⟨h1,id,h2,h3⟩
 .exact .inl h
 .exact .inr ⟨h1,id,h2,AM h3⟩
theorem PX.map{O:List (Tm Z)}{d:D}{S:A1}{im:Nat}{es OI:List (D×D)}(h:PX e O d S)(hm:AA S im=some (.map es)):PX e O d (sset S im (.map OI)):=by
 rcases h with h|⟨h1,id,h2,h3⟩
 .exact .inl h
 .refine .inr ⟨h1,id,h2,?_⟩;have CF:id≠im:=by rintro rfl;rw[h3] at hm;cases hm
  rw[AB _ CF];exact h3
theorem PX.len{O:List (Tm Z)}{d:D}{S:A1}(h:PX e O d S):AK false d=some (.i .i64 O.length):=by rcases h with⟨rfl,rfl⟩|⟨_,id,rfl,_⟩<;>rfl
theorem PX.app{O:List (Tm Z)}{d:D}{S:A1}(h:PX e O d S)(t:Tm Z)(hl:O.length<=60000) :
  ∃d' S',Be 2 true d (.sl 2 false [Cj e t] .ro) S=some (d',S')/\PX e (O++[t]) d' S'/\∀im es,AA S im=some (.map es)->AA S' im=some (.map es):=by
 rcases h with⟨rfl,rfl⟩|⟨h1,id,rfl,h3⟩
 .refine⟨.ar 2 S.length 0 1,.box (fl e [t])::S,?_,.inr ⟨by simp,_,rfl,by simp⟩,fun _ _ q=>AM q⟩;simp[Be,AP,fl]
 .have hlen:=OA (e:=e) O;have hid:=AJ h3;refine⟨.ar 2 S.length 0 (O.length+1),.box (fl e (O++[t]))::sset S id .gone,?_,.inr ⟨by simp,S.length,by simp,?_⟩,fun im es q=>?_⟩
  .have hm:O.length+1<=AP:=by simp[AP];omega
   have ht:(fl e O).take (O.length*2)=fl e O:=take_of_length_le (by omega);simp[Be,pK,hm,h3,hlen,ht,fl_snoc]
  .have:=Aj (.box (fl e (O++[t]))) (sset S id .gone);rw[BR] at this;exact this
  .have CF:im≠id:=by rintro rfl;rw[h3] at q;cases q
   exact AM (by rw[AB _ CF];exact q)
theorem v121{ok:Z->Prop}{c:Z->Z->Int}{tx:Z->List UInt8}(hp:PE e)(he:GE e)(H:Nt e ok c)(T:Jm c)(htx:∀a b,c a b=0->tx a=tx b){O:List (Tm Z)}{d:D}{S:A1}(h:PX e O d S)(hl:O.length<=60000)
  (Bg:∀t,t∈O->My ok t) (UZ:(O.map fun t=>HZ tx t.fs).Nodup) :
  ∃r S' m n,call dp 121 [d,.fn 114 []] S=some (r,S')/\m.Perm O/\(∃S2,Lr d S'=some (Gx e n m,S2))/\(n=true->m=[]):=by
 obtain⟨v,Yo,hv⟩:=v193 O.length (by omega)
 have hc:BA .u64 (.i .i64 (O.length:Int))=some (.i .u64 O.length):=by rw[Nw];congr 2;simp[IntKind.wrap,IntKind.signed,IntKind.bits];omega
 rcases h with⟨rfl,rfl⟩|⟨h1,id,rfl,h3⟩
 .obtain⟨r,S',q,rfl,rfl⟩:=f121 (.sl 2 true [] .ro) (.fn 114 []) S (fun r S'=>r=.AY []/\S'=S) (by
   have hl:AK false (.sl 2 true [] .ro)=some (.i .i64 0):=rfl;have hc:BA .u64 (.i .i64 0)=some (.i .u64 0):=rfl;have xi:A0 (call dp) 193 [.i .u64 0]=some (.i .i64 v):=Yo;simp only[s121,hl,A5,hc,xi,SV (g0:=192) (f:=d192) rfl (by decide)]
   exact⟨trivial,trivial⟩)
  exact⟨_,_,[],true,q,List.Perm.refl _,⟨_,rfl⟩,fun _=>rfl⟩
 .have TT:=qM T
  obtain⟨m,p1,p2,p3⟩:=Z0 (cf:=call dq) (Cj e) (Hw c) 2 114 O (fun _ _=>rfl) (fun t _=>ZR hp t) (by omega) (fun s hs t _=>z114 he H s t (Bg s hs))
   (fun x _ y _ q=>TT.asym x y q) (fun x _ y _ z _ q1 q2=>TT.ntrans x y z q1 q2) (fun x hx y hy q1 q2=>by
    have hz:=TT.conn x y q1 q2;have hk:HZ tx x.fs=HZ tx y.fs:=ki htx hz;obtain⟨i,hi,rfl⟩:=List.mem_iff_getElem.1 hx;obtain⟨j,hj,rfl⟩:=List.mem_iff_getElem.1 hy
    have:i=j:=by
     have xW:=List.pairwise_iff_getElem.1 UZ;rcases Nat.lt_trichotomy i j with q|q|q
     .exact absurd (by rw[getElem_map,getElem_map];exact hk) (xW i j (by simpa using hi) (by simpa using hj) q)
     .exact q
     .exact absurd (by rw[getElem_map,getElem_map];exact hk.symm) (xW j i (by simpa using hj) (by simpa using hi) q)
    subst this;rfl)
  have hlen:=OA (e:=e) O;have yJ:m.length=O.length:=p1.length_eq
  have hch:chunks 2 O.length (fl e O)=O.map (Cj e):=by have:=HJ 2 (O.map (Cj e)) (fun x hx=>by simp at hx;obtain⟨y,_,rfl⟩:=hx;rfl);rw[length_map] at this;exact this
  have hs:=Uy (g0:=192) (f:=d192) rfl (k:=2) (by omega) (by omega) rfl (S:=S) (id:=id) (n:=O.length) (g:=114) (lim:=v) h3 (by omega) (by rw[hch];exact p3) (by omega);have hsp:Ai (fl e O) 0 (m.map (Cj e)).flatten=fl e m:=Th _ _ (by show(fl e m).length=_;rw[OA,OA,yJ]);rw[hsp] at hs
  obtain⟨r,S',q,rfl,rfl⟩:=f121 (.ar 2 id 0 O.length) (.fn 114 []) S (fun r S'=>r=.AY []/\S'=sset S id (.box (fl e m))) (by
   have hl:AK false (.ar 2 id 0 O.length)=some (.i .i64 O.length):=rfl;simp only[s121,hl,A5,hc,Yo,hs]
   exact⟨trivial,trivial⟩)
  refine⟨_,_,m,false,q,p1,⟨sset (sset S id (.box (fl e m))) id .gone,?_⟩,by simp⟩;have hg:AA (sset S id (.box (fl e m))) id=some (.box (fl e m)):=AR _ (AJ h3)
  have hch2:chunks 2 O.length (fl e m)=m.map (Cj e):=by have:=HJ 2 (m.map (Cj e)) (fun x hx=>by simp at hx;obtain⟨y,_,rfl⟩:=hx;rfl);rw[length_map,yJ] at this;exact this
  have hml2:=OA (e:=e) m;simp only[Lr,hg];rw[if_pos (by omega),drop_zero,hch2];rfl
end
def QP{Z:Type}(L:List (Tm Z))(r:Tm Z):Prop:=∃t,t∈L/\r.fs=t.fs/\r.nl=t.nl/\1<=r.c/\r.c<=1152921504606846976
theorem QP.mono{Z:Type}{L M:List (Tm Z)}{r:Tm Z}(h:QP L r)(hs:∀t,t∈L->t∈M):QP M r:=by obtain⟨t,h1,h2⟩:=h;exact⟨t,hs t h1,h2⟩
theorem QP.ok{Z:Type}{ok:Z->Prop}{L:List (Tm Z)}{r:Tm Z}(h:QP L r)(Bg:∀t,t∈L->My ok t):My ok r:=by obtain⟨t,h1,h2,h3,h4,h5⟩:=h;have:=Bg t h1;exact⟨⟨by omega,by omega⟩,by rw[h2,h3];exact this.nl,by rw[h2];exact this.len,by rw[h2];exact this.fs⟩
theorem OQ{Z β:Type}(f:Z->β){O:List Z}{i:Nat}{u v:Z}(h:O[i]? = some u)(hf:f v=f u):(O.set i v).map f=O.map f:=by
 apply List.ext_getElem?;intro j;rw[getElem?_map,getElem?_map,List.getElem?_set];split
 .rename_i q;subst q;rw[h];have:=(gB.1 h).1;simp[this,hf]
 .rfl
section
variable {Z:Type}{e:Z->D}
set_option maxHeartbeats 2000000 in
theorem v66{ok:Z->Prop}{c:Z->Z->Int}{tx:Z->List UInt8}{w:Z->Nat}(hp:PE e)(he:GE e)(H:Nt e ok c)(T:Jm c)(htx:∀a b,c a b=0->tx a=tx b)(nl:Bool)(ts:List (Tm Z))(hl:ts.length<=50000)
  (Bg:∀t,t∈ts->My ok t/\1<=t.c/\t.c<=1152921504606846976) (oN:∀t,t∈ts->A0 (call dp) 120 [BI e t.nl t.fs]=some (.s (HZ tx t.fs))) :
  ∃n R,A0 (call dp) 66 [Gx e nl ts]=some (Gx e n R)/\(n=true->R=[])/\R.length<=ts.length/\(R.map (Hn w)).sum<=(ts.map (Hn w)).sum/\∀r,r∈R->QP ts r:=by
 suffices hh:∃d,A0 (call dp) 66 [Gx e nl ts]=some d/\∃n R,d=Gx e n R/\(n=true->R=[])/\R.length<=ts.length/\(R.map (Hn w)).sum<=(ts.map (Hn w)).sum/\∀r,r∈R->QP ts r by obtain⟨d,h1,n,R,rfl,h2⟩:=hh;exact⟨n,R,h1,h2⟩
 apply j66 _ _ (by simp[A9,HC he]) (by rintro d ⟨n,R,rfl,_⟩;exact HC he _ _);simp only[s66,EA,mm,KX,A5];generalize hR:QS (call dp) WO _=R0
 let J:Nat->List D->A1->Prop:=fun q fr S=>∃(k:Nat) (O:List (Tm Z)) (d:D) (M:List (List UInt8×Nat)) (b14:D),fr=B0 52 [(2,.top),(3,.mp 0),(4,d),(11,Gx e nl ts),(12,.i .i64 ts.length),(13,.i .i64 (k:Nat)),(14,b14)]/\k+q=ts.length/\PX e O d S/\AA S 0=some (.map (C8 D.s eN M)) /\
  O.length<=k/\(∀r,r∈O->QP (ts.take k) r)/\(O.map fun t=>HZ tx t.fs).Nodup/\(∀r,r∈O->assoc (HZ tx r.fs) M≠none)/\(∀key i,assoc key M=some i->i<O.length)/\(O.map (Hn w)).sum<=Ll (Hn w) ts k
 refine AW J ?_ ts.length _ _ ⟨0,[],_,[],_,rfl,by simp,.inl ⟨rfl,rfl⟩,rfl,by simp,by simp,by simp,by simp,by simp[assoc],by simp⟩;intro q fr S hJ;obtain⟨k,O,d,M,b14,C7,hk,hO,hM,hlen,Vj,UZ,Q2,hix,hw⟩:=hJ;rw[C7];rw[<-Ay,e66_0];simp[s66_0];split<;>rename_i h
 .obtain⟨t,ht⟩:=AZ (l:=ts) (k:=k) h;have oY:=gC ht;obtain⟨t1,t2,t3⟩:=Bg t oY;obtain⟨K,hK⟩:∃K,K=HZ tx t.fs:=⟨_,rfl⟩
  have oO:=oN t oY;rw[<-hK] at oO;have YQ:=AJ hM;have hM1:AA (B9.box (Cj e t)::S) 0=some (.map (C8 D.s eN M)):=AM hM;have ND:=Gk sA (ek:=D.s) (ev:=eN) (a:=K) (jD K) hM1 true (.i .i64 0);have hw2:Ll (Hn w) ts (k+1)=Ll (Hn w) ts k+Hn w t:=H6 _ ht;simp[Ko e _ ht,oO,ND];rw[Bz (k:=k) (by unfold Bd;omega)];cases ha:assoc K M with
  |some i=>
   have hi:=hix K i ha;obtain⟨u,hu⟩:=AZ (l:=O) (k:=i) hi;have hum:=gC hu;obtain⟨tu,htu,hu1,hu2,hu3,hu4⟩:=Vj u hum;rcases hO with⟨h1,_⟩|⟨h1,id,rfl,h3⟩
   .subst h1;simp at hi
   have ak:Ak 2 (.ar 2 id 0 O.length) (.i .i64 (i:Int))=some (.bx id (i*2)):=by simp only[Ak];rw[if_pos ⟨by omega,by omega,trivial⟩];simp
   have h3':AA (B9.box (Cj e t)::S) id=some (.box (fl e O)):=AM h3;obtain⟨z,hz⟩:∃z:Int,z=(if(1152921504606846976:Int)<u.c+t.c then 1152921504606846976 else u.c+t.c):=⟨_,rfl⟩
   have hz1:1<=z/\z<=1152921504606846976:=by rw[hz];split<;>omega
   have hmn:mnD (.i .i64 (u.c+t.c)) (.i .i64 1152921504606846976)=some (.i .i64 z):=by rw[hz];rfl
   have hw3:IntKind.wrap .i64 (u.c+t.c)=u.c+t.c:=wrap64 ⟨by omega,by omega⟩
   have Er:Ax (B9.box (Cj e t)::S) 1 false (.bx id (i*2)) (.i .i64 z)=some (sset (B9.box (Cj e t)::S) id (.box (fl e (O.set i { u with c:=z })))):=by have KR:=OA (e:=e) O;have YO:=pS (e:=e) z hu;simp only[Ax,h3'];have UF:Am 1 false (.i .i64 z)=some [.i .i64 z]:=rfl;simp only[UF];rw[if_pos (by omega),YO]
   have hld:MM (fl e O) (i*2) 1 false=some (.i .i64 u.c):=ux hu;obtain⟨S2,Qf⟩:∃S2,S2=sset (B9.box (Cj e t)::S) id (.box (fl e (O.set i { u with c:=z }))):=⟨_,rfl⟩
   rw[<-Qf] at Er;simp[eN,ak,h3',hld,hw3,hmn,Er]
   have hset:O.set i { u with c:=z }≠[]:=by intro q;have:=congrArg List.length q;rw[List.length_set] at this;exact h1 (List.length_eq_zero_iff.1 (by simpa using this))
   have fo:id≠0:=by rintro rfl;rw[h3] at hM;cases hM
   refine⟨q-1,by omega,k+1,O.set i { u with c:=z },_,M,_,rfl,by omega,.inr ⟨hset,id,by simp,?_⟩,?_,by simp;omega,?_,?_,?_,?_,?_⟩
   .rw[Qf];exact AR _ (AJ h3')
   .rw[Qf,AB _ (Ne.symm fo)];exact hM1
   .intro r hr;rcases List.mem_or_eq_of_mem_set hr with hr|rfl
    .exact(Vj r hr).mono fun x hx=>by rw[BV ht];simp[hx]
    .exact⟨tu,by rw[BV ht];simp[htu],hu1,hu2,hz1.1,hz1.2⟩
   .rw[OQ (fun t=>HZ tx t.fs) hu (by rfl)];exact UZ
   .intro r hr;rcases List.mem_or_eq_of_mem_set hr with hr|rfl
    .exact Q2 r hr
    .exact Q2 u hum
   .intro key j hj;have:=hix key j hj;simpa using this
   .rw[OQ (Hn w) hu (by rfl),hw2];omega
  |none=>
   have xZ:=KT sA (ek:=D.s) (ev:=eN) (a:=K) (b:=O.length) (jD K) hM1 ha;have hO1:=(hO.push (B9.box (Cj e t))).map (OI:=C8 D.s eN (M++[(K,O.length)])) hM1;obtain⟨d',S',q1,q2,q3⟩:=hO1.app t (by omega)
   have fb:AA (sset (B9.box (Cj e t)::S) 0 (.map (C8 D.s eN (M++[(K,O.length)])))) S.length=some (.box (Cj e t)):=by rw[AB _ (by omega)];simp
   have fp:AV 2 true [.agg (Cj e t)]=some [Cj e t]:=by simp[AV]
   have hln:=hO.len;have hM2:AA (sset (B9.box (Cj e t)::S) 0 (.map (C8 D.s eN (M++[(K,O.length)])))) 0=some (.map (C8 D.s eN (M++[(K,O.length)]))):=AR _ (by simp);have hmu':O8 (.one .s) (B9.box (Cj e t)::S) (.mp 0) (.s K) (.i .i64 O.length)=some (sset (B9.box (Cj e t)::S) 0 (.map (C8 D.s eN (M++[(K,O.length)])))):=xZ;generalize sset (B9.box (Cj e t)::S) 0 (.map (C8 D.s eN (M++[(K,O.length)])))=S31 at *;simp[hln,hmu',fb,fp,q1];refine⟨q-1,by omega,k+1,O++[t],d',M++[(K,O.length)],_,rfl,by omega,q2,?_,by simp;omega,?_,?_,?_,?_,?_⟩
   .exact q3 _ _ hM2
   .intro r hr;rcases List.mem_append.1 hr with hr|hr
    .exact(Vj r hr).mono fun x hx=>by rw[BV ht];simp[hx]
    .obtain rfl:=List.mem_singleton.1 hr;exact⟨r,by rw[BV ht];simp,rfl,rfl,t2,t3⟩
   .rw[map_append,List.nodup_append];refine⟨UZ,by simp,?_⟩;intro a ha' b hb;obtain⟨r,hr,rfl⟩:=List.mem_map.1 ha';have YJ:b=K:=by simpa[hK] using hb
    subst YJ;intro oX;exact Q2 r hr (by rw[oX];exact ha)
   .intro r hr;rw[Kb];rcases List.mem_append.1 hr with hr|hr
    .have:=Q2 r hr;cases hq:assoc (HZ tx r.fs) M with
     |none=>exact absurd hq this
     |some v=>simp
    .obtain rfl:=List.mem_singleton.1 hr;rw[<-hK,ha];simp[assoc]
   .intro key j hj;rw[Kb] at hj;cases hq:assoc key M with
    |some v=>
     rw[hq] at hj;have:=hix key v hq;injection hj with hj
     simp;omega
    |none=>
     rw[hq] at hj;simp only[assoc] at hj;split at hj
     .injection hj with hj;simp;omega
     .cases hj
   .rw[hw2];simp;omega
 .rw[<-hR];simp only[Ad,e66_r0,wG];rw[take_of_length_le (by omega)] at Vj;obtain⟨r,S',m,n,g1,g2,⟨S2,g3⟩,g4⟩:=v121 hp he H T htx hO (by omega) (fun t ht=>(Vj t ht).ok fun t' ai=>(Bg t' ai).1) UZ;simp only[g1,g3,A5];rw[JJ (Hn w) (by omega)] at hw;refine⟨n,m,rfl,g4,by rw[g2.length_eq];omega,?_,fun r hr=>Vj r (g2.mem_iff.1 hr)⟩;rw[(g2.map (Hn w)).sum_nat];exact hw
end
theorem Sg(d:D):∀(a b:List D) (o:Nat),Bc (a++b) (a.length+o) d=a++Bc b o d
 |[],b,o=>by simp
 |x::a,b,o=>by rw[cons_append,length_cons,show a.length+1+o=(a.length+o)+1 by omega];simp only[Bc,Sg d a b o,cons_append]
theorem TR(d:D):∀(a b:List D) (o:Nat),o<a.length->Bc (a++b) o d=Bc a o d++b
 |x::a,b,0,_=>rfl
 |x::a,b,o+1,h=>by simp only[cons_append,Bc,TR d a b o (by simpa using h)]
theorem M6(d:D):∀(a:List D) (o:Nat),(Bc a o d).length=a.length
 |[],_=>rfl
 |_::_,0=>rfl
 |x::a,o+1=>by simp[Bc,M6 d a o]
theorem PB:∀(l a b:List D) (o:Nat),Ai (a++b) (a.length+o) l=a++Ai b o l
 |[],_,_,_=>rfl
 |d::l,a,b,o=>by simp only[Ai];rw[Sg,show a.length+o+1=a.length+(o+1) by omega,PB l]
theorem Ol:∀(l a b:List D) (o:Nat),o+l.length<=a.length->Ai (a++b) o l=Ai a o l++b
 |[],_,_,_,_=>rfl
 |d::l,a,b,o,h=>by simp only[length_cons] at h;simp only[Ai];rw[TR _ _ _ _ (by omega),Ol l _ _ _ (by rw[M6];omega)]
section
variable {k:Nat}
theorem uc:∀{xs:List (List D)} {i:Nat} {r:List D} (j:Nat),(∀x,x∈xs->x.length=k)->xs[i]? = some r->j<k->(xs.flatten)[i*k+j]? = r[j]?
 |[],_,_,_,_,h,_=>by simp at h
 |x::xs,0,r,j,hk,h,hj=>by simp at h;subst h;have:=hk x (by simp);simp only[flatten_cons,zero_mul,zero_add];rw[gE (by omega)]
 |x::xs,i+1,r,j,hk,h,hj=>by have hx:=hk x (by simp);have ih:=uc (xs:=xs) (i:=i) j (fun y hy=>hk y (by simp[hy])) (by simpa using h) hj;rw[flatten_cons,gF (by rw[hx,succ_mul];omega),<-ih];congr 1;rw[hx,succ_mul];omega
theorem cH:∀{xs:List (List D)} {i:Nat} {r:List D} (j:Nat) (l:List D),(∀x,x∈xs->x.length=k)->xs[i]? = some r->j+l.length<=k->Ai xs.flatten (i*k+j) l=(xs.set i (Ai r j l)).flatten
 |[],_,_,_,_,_,h,_=>by simp at h
 |x::xs,0,r,j,l,hk,h,hj=>by simp at h;subst h;have:=hk x (by simp);simp only[flatten_cons,zero_mul,zero_add,List.set_cons_zero];rw[Ol _ _ _ _ (by omega)]
 |x::xs,i+1,r,j,l,hk,h,hj=>by have hx:=hk x (by simp);have ih:=cH (xs:=xs) (i:=i) j l (fun y hy=>hk y (by simp[hy])) (by simpa using h) hj;rw[flatten_cons,List.set_cons_succ,flatten_cons,<-ih,<-PB];congr 1;rw[hx,succ_mul];omega
theorem jO:∀{xs:List (List D)} {i:Nat} {r:List D} (j m:Nat),(∀x,x∈xs->x.length=k)->xs[i]? = some r->j+m<=k->((xs.flatten).drop (i*k+j)).take m=(r.drop j).take m
 |[],_,_,_,_,_,h,_=>by simp at h
 |x::xs,0,r,j,m,hk,h,hj=>by simp at h;subst h;have:=hk x (by simp);simp only[flatten_cons,zero_mul,zero_add];rw[List.drop_append_of_le_length (by omega),List.take_append_of_le_length (by simp;omega)]
 |x::xs,i+1,r,j,m,hk,h,hj=>by have hx:=hk x (by simp);have ih:=jO (xs:=xs) (i:=i) j m (fun y hy=>hk y (by simp[hy])) (by simpa using h) hj;rw[flatten_cons,show(i+1)*k+j=x.length+(i*k+j) by rw[hx,succ_mul];omega,<-List.drop_drop,List.drop_left,ih]
theorem MF:∀{xs:List (List D)},(∀x,x∈xs->x.length=k)->xs.flatten.length=xs.length*k
 |[],_=>by simp
 |x::xs,hk=>by have hx:=hk x (by simp);simp only[flatten_cons,length_append,length_cons,MF (xs:=xs) fun y hy=>hk y (by simp[hy]),hx,succ_mul];omega
end
def R3(k:Nat)(nl:Bool)(xs:List (List D))(d:D)(S:A1):Prop:=(xs=[]/\∃o,d=.sl k nl [] o)\/(xs≠[]/\nl=false/\∃id,d=.ar k id 0 xs.length/\AA S id=some (.box xs.flatten))
def UH(k:Nat)(nl:Bool)(xs:List (List D))(S:A1)(d:D)(S':A1):Prop:=(xs=[]/\(∃o,d=.sl k nl [] o/\(o=.ro\/o=.G4))/\S'=S)\/(xs≠[]/\nl=false/\d=.ar k S.length 0 xs.length/\S'=.box xs.flatten::S)
theorem Sn{k:Nat}{nl:Bool}{xs:List (List D)}{S:A1}(hn:nl=true->xs=[])(hl:xs.length<=1000000) :
  OX (A4 .eql .sl (.sl k nl xs .ro) (.sl k true [] .ro)) fun x1=>WB x1 (UH k nl xs S (.sl k true [] .ro) S) (OX (Be k true (HE k [] S).1 (.sl k nl xs .ro) (HE k [] S).2) fun p4=>UH k nl xs S p4.1 p4.2):=by
 cases nl with
 |true=>
  have:=hn rfl;subst this;have hb:A4 .eql .sl (.sl k true [] .ro) (.sl k true [] .ro)=some (.b true):=rfl;simp only[hb,A5,KN,if_true];exact .inl ⟨rfl,⟨_,rfl,.inl rfl⟩,rfl⟩
 |false=>
  have hb:A4 .eql .sl (.sl k false xs .ro) (.sl k true [] .ro)=some (.b false):=rfl;simp only[hb,A5,KN,Bool.false_eq_true,if_false];have hbs:HE k [] S=(.sl k false [] .G4,S):=rfl;rw[hbs];by_cases h:xs=[]
  .subst h;have:Be k true (.sl k false [] .G4) (.sl k false [] .ro) S=some (.sl k false [] .G4,S):=by simp[Be,AP]
   simp only[this,A5];exact .inl ⟨rfl,⟨_,rfl,.inr rfl⟩,rfl⟩
  .have hm:xs.length<=AP:=by simp[AP];omega
   have he:xs.isEmpty=false:=by cases xs<;>simp_all
   have:Be k true (.sl k false [] .G4) (.sl k false xs .ro) S=some (.ar k S.length 0 xs.length,.box xs.flatten::S):=by simp[Be,hm,he]
   simp only[this,A5];exact .inr ⟨h,rfl,rfl,rfl⟩
theorem v1187{nl:Bool}{xs:List (List D)}{S:A1}(hn:nl=true->xs=[])(hl:xs.length<=1000000):∃d S',call dp 1187 [.sl 11 nl xs .ro] S=some (d,S')/\UH 11 nl xs S d S':=
 f1187 _ S (UH 11 nl xs S) (by simp only[s1187,H8,A5];exact Sn hn hl)
theorem v1252{nl:Bool}{xs:List (List D)}{S:A1}(hn:nl=true->xs=[])(hl:xs.length<=1000000):∃d S',call dp 1252 [.sl 1 nl xs .ro] S=some (d,S')/\UH 1 nl xs S d S':=
 f1252 _ S (UH 1 nl xs S) (by simp only[s1252,H8,A5];exact Sn hn hl)
theorem v1253{nl:Bool}{xs:List (List D)}{S:A1}(hn:nl=true->xs=[])(hl:xs.length<=1000000):∃d S',call dp 1253 [.sl 4 nl xs .ro] S=some (d,S')/\UH 4 nl xs S d S':=
 f1253 _ S (UH 4 nl xs S) (by simp only[s1253,H8,A5];exact Sn hn hl)
section
variable {Z:Type}(cp:Z->Z)
def UN(p:Vl × Z):Vl × Z:=(p.1,cp p.2)
def Gy(f:Fc Z):Fc Z:={ f with args:=f.args.map cp,items:=f.items.map (UN cp) }
def Ks(t:Tm Z):Tm Z:={ t with fs:=t.fs.map (Gy cp) }
def Pe(x:An Z):An Z:={ nl:=decide (x.ts=[]),ts:=x.ts.map (Ks cp) }
end
def Gd:(n:Nat)->Eu n->Eu n
 |0,x=>nomatch x
 |n+1,x=>Pe (Gd n) x
def Lw{β γ:Type}(f g:β->γ)(l:List β)(k:Nat):List γ:=(l.take k).map f++(l.drop k).map g
theorem Ss{β γ:Type}(f g:β->γ){l:List β}{k:Nat}{x:β}(h:l[k]? = some x):(Lw f g l k)[k]? = some (g x):=by
 have hk:=(gB.1 h).1;unfold Lw;rw[gF (by simp;omega)];have e:(List.map f (l.take k)).length=k:=by simp;omega
 rw[e,Nat.sub_self,getElem?_map,List.getElem?_drop,add_zero,h];rfl
theorem Tb{β γ:Type}(f g:β->γ){l:List β}{k:Nat}{x:β}(h:l[k]? = some x):(Lw f g l k).set k (f x)=Lw f g l (k+1):=by
 have hk:=(gB.1 h).1;unfold Lw;have e:(List.map f (l.take k)).length=k:=by simp;omega
 rw[List.set_append_right _ _ (by omega),e,Nat.sub_self,BG h,BV h];simp
theorem Pw{β γ:Type}(f g:β->γ)(l:List β):Lw f g l 0=l.map g:=by simp[Lw]
theorem TZ{β γ:Type}(f g:β->γ){l:List β}{k:Nat}(h:l.length<=k):Lw f g l k=l.map f:=by simp[Lw,take_of_length_le h,List.drop_of_length_le h]
theorem Su{β γ:Type}(f g:β->γ){l:List β}{k:Nat}{P:γ->Prop}(hf:∀x,P (f x))(hg:∀x,P (g x)):∀y,y∈Lw f g l k->P y:=by
 intro y hy;rcases List.mem_append.1 hy with h|h
 .obtain⟨x,_,rfl⟩:=List.mem_map.1 h;exact hf x
 .obtain⟨x,_,rfl⟩:=List.mem_map.1 h;exact hg x
theorem UH.arK{k:Nat}{nl:Bool}{xs:List (List D)}{S S':A1}{d:D}(h:UH k nl xs S d S'):R3 k nl xs d S'/\S.length<=S'.length/\(∀id x,AA S id=some x->AA S' id=some x)/\(∀id n o m,d=.ar m id o n->id=S.length):=by
 rcases h with⟨h1,⟨o,h2,_⟩,rfl⟩|⟨h1,h0,rfl,rfl⟩
 .exact⟨.inl ⟨h1,o,h2⟩,le_refl _,fun _ _ q=>q,fun id n o m q=>by rw[h2] at q;cases q⟩
 .exact⟨.inr ⟨h1,h0,_,rfl,by simp⟩,by simp,fun _ _ q=>AM q,fun id n o m q=>by injection q with _ q;exact q.symm⟩
theorem R3.BF{k:Nat}{nl:Bool}{xs:List (List D)}{d:D}{S:A1}(h:R3 k nl xs d S):DE.BF d=true:=by rcases h with⟨_,o,rfl⟩|⟨_,_,id,rfl,_⟩<;>rfl
theorem R3.len{k:Nat}{nl:Bool}{xs:List (List D)}{d:D}{S:A1}(h:R3 k nl xs d S):AK false d=some (.i .i64 xs.length):=by rcases h with⟨rfl,o,rfl⟩|⟨_,_,id,rfl,_⟩<;>rfl
theorem R3.at{k:Nat}{nl:Bool}{xs:List (List D)}{d:D}{S:A1}(h:R3 k nl xs d S){i:Nat}{r:List D}(hi:xs[i]? = some r) :
  ∃id,d=.ar k id 0 xs.length/\AA S id=some (.box xs.flatten)/\Ak k d (.i .i64 i)=some (.bx id (i*k))/\nl=false:=by
 have hl:=(gB.1 hi).1;rcases h with⟨rfl,o,rfl⟩|⟨_,h0,id,rfl,h2⟩
 .simp at hi
 .refine⟨id,rfl,h2,?_,h0⟩;simp only[Ak];rw[if_pos ⟨by omega,by omega,trivial⟩];simp
theorem R3.set{k:Nat}{nl:Bool}{xs:List (List D)}{d:D}{S:A1}{id i:Nat}(h:R3 k nl xs d S)(hd:d=.ar k id 0 xs.length)(CF:xs≠[])(hS:AA S id=some (.box xs.flatten))(y:List D) :
  R3 k nl (xs.set i y) d (sset S id (.box (xs.set i y).flatten)):=by
 rcases h with⟨q,_⟩|⟨_,h0,_⟩
 .exact absurd q CF
 .refine .inr ⟨?_,h0,id,by rw[hd];simp,AR _ (AJ hS)⟩;intro q;have:=congrArg List.length q;rw[List.length_set] at this;exact CF (List.length_eq_zero_iff.1 (by simpa using this))
section
variable {Z:Type}{e:Z->D}{cp:Z->Z}
def JO(f:Fc Z)(d1 d2:D):List D:=[.i .i64 f.kind,.i .i64 f.row.1,.i .i64 f.row.2,d1,.i .i64 f.fn,d2,.i .i64 f.op,.i .i64 f.bound.kind,.i .i64 f.bound.int,.s f.bound.text]
def zat:List D:=[.i .i64 0,.i .i64 0,.i .i64 0,.sl 1 true [] .ro,.i .i64 0,.sl 4 true [] .ro,.i .i64 0,.i .i64 0,.i .i64 0,.s []]
theorem atX_e(f:Fc Z):GZ e f=JO f (Bl e f.NG f.args) (B6 e f.inl f.items):=rfl
@[simp] theorem atX_3(f:Fc Z)(d1 d2:D):(JO f d1 d2)[3]? = some d1:=rfl
@[simp] theorem atX_5(f:Fc Z)(d1 d2:D):(JO f d1 d2)[5]? = some d2:=rfl
@[simp] theorem atX_len(f:Fc Z)(d1 d2:D):(JO f d1 d2).length=10:=rfl
@[simp] theorem atX_s3(f:Fc Z)(d1 d2 d:D):Bc (JO f d1 d2) 3 d=JO f d d2:=rfl
@[simp] theorem atX_s5(f:Fc Z)(d1 d2 d:D):Bc (JO f d1 d2) 5 d=JO f d1 d:=rfl
def r1(e:Z->D)(a:Z):List D:=[e a]
theorem iz{S:A1}{id o:Nat}{cs:List D}{v:D}(h:AA S id=some (.box cs))(hv:DE.BF v=true)(ho:o<cs.length):Ax S 1 false (.bx id o) v=some (sset S id (.box (Bc cs o v))):=by
 have hc:Am 1 false v=some [v]:=by simp[Am,hv]
 simp only[Ax,h,hc];rw[if_pos (by omega)];rfl
theorem wm{k:Nat}{nl:Bool}{xs:List (List D)}{d:D}{S:A1}(h:R3 k nl xs d S){i j:Nat}{r:List D}(hi:xs[i]? = some r)(hk:∀x,x∈xs->x.length=k)(hj:j<k){v:D}(hv:DE.BF v=true) :
  ∃id S',d=.ar k id 0 xs.length/\Ak k d (.i .i64 i)=some (.bx id (i*k))/\Ax S 1 false (.bx id (i*k+j)) v=some S'/\S'=sset S id (.box (xs.set i (Bc r j v)).flatten)/\R3 k nl (xs.set i (Bc r j v)) d S'/\AE S 1 false (.bx id (i*k+j))=r[j]?:=by
 obtain⟨id,w1,w2,w3,w4⟩:=h.at hi;have hl:=(gB.1 hi).1;have hrd:=uc j hk hi hj;have Er:=cH j [v] hk hi (by simp;omega);have KR:=MF hk;have CF:xs≠[]:=by rintro rfl;simp at hi
 have hc:Am 1 false v=some [v]:=by simp[Am,hv]
 refine⟨id,_,w1,w3,?_,rfl,h.set w1 CF w2 _,?_⟩
 .simp only[Ax,w2,hc];rw[Er]
  have:i*k+j+1<=xs.flatten.length:=by rw[KR];have:(i+1)*k<=xs.length*k:=Nat.mul_le_mul_right _ (by omega);rw[succ_mul] at this;omega
  rw[if_pos this];rfl
 .simp only[AE,w2];rw[<-hrd];rfl
theorem wB{k:Nat}{nl:Bool}{xs:List (List D)}{d:D}{S:A1}(h:R3 k nl xs d S)(hk:∀x,x∈xs->x.length=k)(hid:∀m id o n,d=.ar m id o n->id≠0/\id≠1) :
  ∃d' S',fzA 0 d S=some (d',S')/\Lx d'=.sl k nl xs .ro/\DE.BF d'=true/\(∀j,(∀m id o n,d=.ar m id o n->j≠id)->AA S' j=AA S j):=by
 rcases h with⟨rfl,o,rfl⟩|⟨h1,h0,id,rfl,h2⟩
 .exact⟨_,S,rfl,rfl,rfl,fun _ _=>rfl⟩
 .have hid':=hid k id 0 xs.length rfl;have KR:=MF hk;have hch:=HJ k xs hk;refine⟨.sl k false xs .ro,sset S id .gone,?_,by rw[h0];rfl,rfl,fun j hj=>AB _ (hj k id 0 xs.length rfl)⟩;simp only[fzA,if_neg hid'.1,h2];rw[if_pos (by omega),drop_zero,hch]
set_option maxHeartbeats 2000000 in
theorem v188(he:GE e)(f:Fc Z)(ha:∀a,a∈f.args->A0 (call dp) 119 [e a]=some (e (cp a)))(hi:∀p,p∈f.items->A0 (call dp) 119 [e p.2]=some (e (cp p.2)))
  (hn1:f.NG=true->f.args=[]) (hn2:f.inl=true->f.items=[]) (pE:f.args.length<=60000) (YB:f.items.length<=60000) :
  A0 (call dp) 188 [.agg (GZ e f)]=some (.agg (GZ e (Gy cp f))):=by
 apply i188 _ _ (by simp[A9,Ec he]) (Ec he _);generalize hP:(fun(d:D) (_:A1)=>Ae d=.agg (GZ e (Gy cp f)))=P;obtain⟨d1,S1,q1,q2⟩:=v1252 (nl:=f.NG) (xs:=f.args.map (r1 e)) (S:=[.box zat,.box (GZ e f)]) (fun h=>by rw[hn1 h];rfl) (by simp;omega);obtain⟨k1,k2,k3,k4⟩:=q2.arK;have q1:call dp 1252 [Bl e f.NG f.args] [.box zat,.box (GZ e f)]=some (d1,S1):=q1;have g0:AA S1 0=some (.box (JO f (Bl e f.NG f.args) (B6 e f.inl f.items))):=k3 0 _ rfl;have Er:=iz (v:=d1) g0 k1.BF (show 3<10 by decide)
 have k1':R3 1 f.NG (f.args.map (r1 e)) d1 (sset S1 0 (.box (JO f d1 (B6 e f.inl f.items)))):=by
  rcases k1 with h|⟨h1,h0,id,h2,h3⟩
  .exact .inl h
  .have hid:id=2:=k4 id _ _ _ h2;exact .inr ⟨h1,h0,id,h2,by rw[AB _ (by omega)];exact h3⟩
 generalize hC:(sset S1 0 (.box (JO f d1 (B6 e f.inl f.items))))=S2 at *;have Qf:AA S2 0=some (.box (JO f d1 (B6 e f.inl f.items))):=by rw[<-hC];exact AR _ (AJ g0)
 have hS21:AA S2 1=some (.box zat):=by rw[<-hC,AB _ (by omega)];exact k3 1 _ rfl
 have hl:=k1'.len;rw[length_map] at hl;simp only[s188]
 try simp only[hP]
 rw[zat] at q1;simp[q1];rw[<-Y2,Er];simp[hC,Qf,hl];generalize hR:QS (call dp) RE _=R
 let J:Nat->List D->A1->Prop:=fun q fr S=>∃k b13,fr=B0 50 [(1,.bx 0 0),(2,.bx 1 0),(11,.i .i64 f.args.length),(12,.i .i64 (k:Nat)),(13,b13),(32,.top),(33,.top),(34,.top)]/\k+q=f.args.length/\AA S 0=some (.box (JO f d1 (B6 e f.inl f.items)))/\AA S 1=some (.box zat)/\R3 1 f.NG (Lw (fun a=>r1 e (cp a)) (r1 e) f.args k) d1 S/\1<S.length
 refine AW J ?_ f.args.length _ _ ⟨0,_,rfl,by simp,Qf,hS21,by rw[Pw];exact k1',AJ hS21⟩;intro q fr S hJ;obtain⟨k,b13,C7,hk,h0,h1,hA,hlS⟩:=hJ;rw[C7];rw[<-Ay,e188_1];simp[wZ,h0];split<;>rename_i h
 .obtain⟨a,hax⟩:=AZ (l:=f.args) (k:=k) h;have hg:=Ss (fun a=>r1 e (cp a)) (r1 e) hax;have af:∀x,x∈Lw (fun a=>r1 e (cp a)) (r1 e) f.args k->x.length=1:=Su _ _ (fun _=>rfl) (fun _=>rfl);obtain⟨id,S3,w1,w2,w3,w4,w5,w6⟩:=wm hA hg af (j:=0) (by omega) (v:=e (cp a)) (he.cell _);have hid:=k4 id _ _ _ w1;have hid:id=2:=hid;simp only[Nat.mul_one,add_zero] at w2 w3 w6;have xr:Bc (r1 e a) 0 (e (cp a))=r1 e (cp a):=rfl;rw[xr,Tb (fun a=>r1 e (cp a)) (r1 e) hax] at w5;have w6:AE S 1 false (.bx id k)=some (e a):=w6;have hca:=ha a (gC hax);simp only[w2,A5,w6,hca,w3];rw[Bz (k:=k) (by unfold Bd;omega)];refine⟨q-1,by omega,k+1,_,rfl,by omega,?_,?_,w5,?_⟩
  .rw[w4,AB _ (by omega)];exact h0
  .rw[w4,AB _ (by omega)];exact h1
  .rw[w4,BR];exact hlS
 .rw[TZ _ _ (by omega)] at hA;rw[<-hR];simp only[Ad,yj,gy];obtain⟨d2,S3,q3,q4⟩:=v1253 (nl:=f.inl) (xs:=f.items.map (Gw e)) (S:=S) (fun h=>by rw[hn2 h];rfl) (by simp;omega);obtain⟨m1,m2,m3,m4⟩:=q4.arK;have q3:call dp 1253 [B6 e f.inl f.items] S=some (d2,S3):=q3;have g0:AA S3 0=some (.box (JO f d1 (B6 e f.inl f.items))):=m3 0 _ h0;have g1:AA S3 1=some (.box zat):=m3 1 _ h1;have Er:=iz (v:=d2) g0 m1.BF (show 5<10 by decide);rw[atX_s5] at Er
  have hA3:R3 1 f.NG (f.args.map fun a=>r1 e (cp a)) d1 (sset S3 0 (.box (JO f d1 d2))):=by
   rcases hA with h|⟨h1,h0,id,h2,h3⟩
   .exact .inl h
   .have hid:id=2:=k4 id _ _ _ h2;exact .inr ⟨h1,h0,id,h2,by rw[AB _ (by omega)];exact m3 _ _ h3⟩
  have hB3:R3 4 f.inl (f.items.map (Gw e)) d2 (sset S3 0 (.box (JO f d1 d2))):=by
   rcases m1 with h|⟨h1,h0,id,h2,h3⟩
   .exact .inl h
   .have hid:id=S.length:=m4 id _ _ _ h2;exact .inr ⟨h1,h0,id,h2,by rw[AB _ (by omega)];exact h3⟩
  have h0':AA (sset S3 0 (.box (JO f d1 d2))) 0=some (.box (JO f d1 d2)):=AR _ (AJ g0);have h1':AA (sset S3 0 (.box (JO f d1 d2))) 1=some (.box zat):=by rw[AB _ (by omega)];exact g1
  have hlS3:S.length<=(sset S3 0 (.box (JO f d1 d2))).length:=by rw[BR];exact m2
  have hlen2:=hB3.len;rw[length_map] at hlen2;have f5:AO 5 (.bx 0 0)=some (.bx 0 5):=rfl;have l5:AE S 1 false (.bx 0 5)=some (B6 e f.inl f.items):=by simp[h0]
  generalize hC2:(sset S3 0 (.box (JO f d1 d2)))=S4 at *;have l5':AE S4 1 false (.bx 0 5)=some d2:=by simp[h0']
  simp only[f5,A5,l5,q3,Er,l5',hlen2];generalize hR2:QS (call dp) RJ _=R2;have hne4:∀id o n,d2=.ar 4 id o n->id≠0/\id≠1/\id≠2\/True:=fun _ _ _ _=>.inr trivial;have aZ:∀m id o n,d2=.ar m id o n->id=S.length:=fun m id o n h=>m4 id n o m h;have PO:∀m id o n,d1=.ar m id o n->id=2:=fun m id o n h=>k4 id n o m h
  let J2:Nat->List D->A1->Prop:=fun q fr T=>∃k b34,fr=B0 50 [(1,.bx 0 0),(2,.bx 1 0),(11,.top),(12,.top),(13,.top),(32,.i .i64 f.items.length),(33,.i .i64 (k:Nat)),(34,b34)]/\k+q=f.items.length/\AA T 0=some (.box (JO f d1 d2))/\AA T 1=some (.box zat) /\
   R3 1 f.NG (f.args.map fun a=>r1 e (cp a)) d1 T/\R3 4 f.inl (Lw (fun p=>Gw e (UN cp p)) (Gw e) f.items k) d2 T
  have Qf:(∀m id o n,d1=.ar m id o n->2<S.length):=fun m id o n hd=>by
   rcases hA with⟨_,o',h⟩|⟨_,_,pF,h2,h3⟩
   .rw[h] at hd;cases hd
   .have:=AJ h3;have hid:pF=2:=k4 pF _ _ _ h2;omega
  refine AW J2 ?_ f.items.length _ _ ⟨0,_,rfl,by simp,h0',h1',hA3,by rw[Pw];exact hB3⟩;intro q fr T hJ;obtain⟨k,b34,C7,hk,t0,t1,tA,tB⟩:=hJ;rw[C7];rw[<-Ay,e188_0];simp[wT,t0];split<;>rename_i h
  .obtain⟨p,xS⟩:=AZ (l:=f.items) (k:=k) h;have hg:=Ss (fun p=>Gw e (UN cp p)) (Gw e) xS;have af:∀x,x∈Lw (fun p=>Gw e (UN cp p)) (Gw e) f.items k->x.length=4:=Su _ _ (fun _=>rfl) (fun _=>rfl);obtain⟨id,T3,w1,w2,w3,w4,w5,w6⟩:=wm tB hg af (j:=3) (by omega) (v:=e (cp p.2)) (he.cell _);have hid:=aZ _ id _ _ w1;have xr:Bc (Gw e p) 3 (e (cp p.2))=Gw e (UN cp p):=rfl;rw[xr,Tb (fun p=>Gw e (UN cp p)) (Gw e) xS] at w5;have w6:AE T 1 false (.bx id (k*4+3))=some (e p.2):=w6;have hca:=hi p (gC xS);have hfa:AO 3 (.bx id (k*4))=some (.bx id (k*4+3)):=rfl;simp only[w2,A5,hfa,w6,hca,w3];rw[Bz (k:=k) (by unfold Bd;omega)];have hidS:id≠0/\id≠1:=by omega
   refine⟨q-1,by omega,k+1,_,rfl,by omega,?_,?_,?_,w5⟩
   .rw[w4,AB _ (by omega)];exact t0
   .rw[w4,AB _ (by omega)];exact t1
   .rcases tA with h|⟨h1,h0,pF,h2,h3⟩
    .exact .inl h
    .have hid':pF=2:=PO _ pF _ _ h2;have:=Qf _ _ _ _ h2;exact .inr ⟨h1,h0,pF,h2,by rw[w4,AB _ (by omega)];exact h3⟩
  .rw[TZ _ _ (by omega)] at tB;rw[<-hR2];simp only[Ad,e188_r0,jE];obtain⟨Vk,T1,u1,u2,u3,u4⟩:=wB tA (by intro x hx;obtain⟨a,_,rfl⟩:=List.mem_map.1 hx;rfl) (fun m id o n hd=>by have:=PO m id o n hd;omega)
   have tB1:R3 4 f.inl (f.items.map fun p=>Gw e (UN cp p)) d2 T1:=by
    rcases tB with h|⟨h1,h0,pF,h2,h3⟩
    .exact .inl h
    .have hid':pF=S.length:=aZ _ pF _ _ h2;refine .inr ⟨h1,h0,pF,h2,?_⟩;rw[u4 pF (fun m id o n hd=>by have:=PO m id o n hd;have:=Qf m id o n hd;omega)];exact h3
   obtain⟨Vm,T2,v1,v2,v3,v4⟩:=wB tB1 (by intro x hx;obtain⟨a,_,rfl⟩:=List.mem_map.1 hx;rfl) (fun m id o n hd=>by have:=aZ m id o n hd;omega)
   have hz:Lr (.bx 0 0) T=some (.bx 0 0,sset T2 0 (.box (JO f Vk Vm))):=by
    have KR:fzL 0 (JO f d1 d2) T=some (JO f Vk Vm,T2):=by have fi:∀(k:IntKind) (n:Int) (S:A1),fzA 0 (.i k n) S=some (.i k n,S):=fun _ _ _=>rfl;have fs:∀(l:List UInt8) (S:A1),fzA 0 (.s l) S=some (.s l,S):=fun _ _=>rfl;simp only[JO,fzL,fi,fs,u1,v1]
    simp only[Lr,t0,KR]
   have s0:AA T2 0=AA T 0:=by rw[v4 0 (fun m id o n hd=>by have:=aZ m id o n hd;omega),u4 0 (fun m id o n hd=>by have:=PO m id o n hd;omega)]
   have s1:AA T2 1=AA T 1:=by rw[v4 1 (fun m id o n hd=>by have:=aZ m id o n hd;omega),u4 1 (fun m id o n hd=>by have:=PO m id o n hd;omega)]
   have z0:AA (sset T2 0 (.box (JO f Vk Vm))) 0=some (.box (JO f Vk Vm)):=AR _ (AJ (by rw[s0];exact t0));have z1:AA (sset T2 0 (.box (JO f Vk Vm))) 1=some (.box zat):=by rw[AB _ (by omega),s1];exact t1
   have hld:AE (sset T2 0 (.box (JO f Vk Vm))) 10 true (.bx 0 0)=some (.agg (JO f Vk Vm)):=by simp only[AE,z0];rfl
   have UF:Am 10 true (.agg (JO f Vk Vm))=some (JO f Vk Vm):=JV rfl (by simp[JO,u3,v3])
   have hst3:Ax (sset T2 0 (.box (JO f Vk Vm))) 10 true (.bx 1 0) (.agg (JO f Vk Vm))=some (sset (sset T2 0 (.box (JO f Vk Vm))) 1 (.box (JO f Vk Vm))):=by simp only[Ax,z1,UF];rw[if_pos (by decide)];rfl
   simp only[hz,A5,hld,hst3,bl];have zz:AA (sset (sset T2 0 (.box (JO f Vk Vm))) 1 (.box (JO f Vk Vm))) 1=some (.box (JO f Vk Vm)):=AR _ (AJ z1);have hlc:CE (sset (sset T2 0 (.box (JO f Vk Vm))) 1 (.box (JO f Vk Vm))) 10 true (.bx 1 0)=some (.agg (JO f Vk Vm)):=by simp only[CE,AE,zz];rfl
   have hfg:Ah (B0 50 [(1,.top),(2,.bx 1 0),(11,.top),(12,.top),(13,.top),(32,.top),(33,.top),(34,.top)]) 2=.bx 1 0:=rfl;simp only[hfg,hlc,A5];rw[<-hP];show strip (.agg (JO f Vk Vm))=_;simp only[strip,JO,EW,u2,v2];simp[atX_e,JO,Gy,Bl,B6,Lx,r1,map_map,Function.comp]
end
theorem Mj.sy{S:A1}{n:Bool}{m id:Nat}{o:JB}{cs:List D}{x:B9}(h:Mj S n m o)(hb:AA S id=some (.box cs)):Mj (sset S id x) n m o:=by
 rcases h with h|⟨h,t,ho,ht⟩
 .exact .inl h
 .refine .inr ⟨h,t,ho,?_⟩;have:t≠id:=by rintro rfl;rw[hb] at ht;cases ht
  rw[AB _ this];exact ht
section
variable {Z:Type}{e:Z->D}{cp:Z->Z}
theorem vz{nl:Bool}{xs:List (List D)}{d:D}{S:A1}(h:R3 11 nl xs d S){i:Nat}{f g:Fc Z}(hi:xs[i]? = some (EF e f))(hk:∀x,x∈xs->x.length=11) :
  ∃id S',d=.ar 11 id 0 xs.length/\Ak 11 d (.i .i64 i)=some (.bx id (i*11))/\AA S id=some (.box xs.flatten)/\Ax S 10 true (.bx id (i*11)) (.agg (GZ e g))=some S'/\S'=sset S id (.box (xs.set i (EF e { g with exp:=f.exp })).flatten)/\R3 11 nl (xs.set i (EF e { g with exp:=f.exp })) d S'/\AE S 10 true (.bx id (i*11))=some (.agg (GZ e f)):=by
 obtain⟨id,w1,w2,w3,w4⟩:=h.at hi;have hl:=(gB.1 hi).1;have hrd:=jO 0 10 hk hi (by omega);have Er:=cH 0 (GZ e g) hk hi (by simp);have KR:=MF hk;have CF:xs≠[]:=by rintro rfl;simp at hi
 have hbd:i*11+10<=xs.flatten.length:=by rw[KR];omega
 have hsp:Ai (EF e f) 0 (GZ e g)=EF e { g with exp:=f.exp }:=rfl;rw[hsp] at Er;simp only[add_zero] at hrd Er;refine⟨id,_,w1,w3,w2,?_,rfl,h.set w1 CF w2 _,?_⟩
 .simp only[Ax,w2,lP];rw[if_pos hbd,Er]
 .simp only[AE,w2,MM,if_true];rw[if_pos hbd,hrd];rfl
theorem fzD_ok{k:Nat}{nl:Bool}{xs:List (List D)}{d:D}{S:A1}(h:R3 k nl xs d S)(hk:∀x,x∈xs->x.length=k) :
  ∃S',Lr d S=some (.sl k nl xs .ro,S')/\(S'=S\/∃id cs,AA S id=some (.box cs)/\S'=sset S id .gone/\d=.ar k id 0 xs.length):=by
 rcases h with⟨rfl,o,rfl⟩|⟨h1,h0,id,rfl,h2⟩
 .exact⟨S,rfl,.inl rfl⟩
 .have KR:=MF hk;have hch:=HJ k xs hk;refine⟨sset S id .gone,?_,.inr ⟨id,_,h2,rfl,rfl⟩⟩;simp only[Lr,h2];rw[if_pos (by omega),drop_zero,hch,h0]
variable (e) in
def oi(n:Bool)(L:List (Tm Z))(o:JB):D:=.sl 2 n (L.map (Cj e)) o
theorem gq:D.sl 2 true [] .ro=oi e true [] .ro:=rfl
theorem vn{S:A1}{n:Bool}{o:JB}{L:List (Tm Z)}(h:Mj S n L.length o)(t:Tm Z)(hl:L.length<=60000) :
  ∃o2 S',Be 2 false (oi e n L o) (.sl 2 false [Cj e t] .ro) S=some (oi e false (L++[t]) o2,S')/\Mj S' false (L++[t]).length o2/\Gi S S':=by
 obtain⟨t',S',q1,q2,q3,_⟩:=LR (k:=2) (n':=false) (xs:=L.map (Cj e)) (ys:=[Cj e t]) (o':=.ro) (S:=S) (by simpa using h) (by simp[AP];omega) (by simp);exact⟨.tok t',S',by rw[oi,q1];simp[oi],.inr ⟨rfl,t',rfl,q2⟩,q3⟩
set_option maxHeartbeats 2000000 in
theorem v119s{ok:Z->Prop}{w:Z->Nat}(he:GE e)(H:∀a,ok a->w a<=50000->A0 (call dp) 119 [e a]=some (e (cp a)))(x:An Z)(hx:Hd ok x)(hw:Sy w x<=50000):A0 (call dp) 119 [CL e x]=some (CL e (Pe cp x)):=by
 have hts:=Xa hw;apply i119 _ _ (by simp[A9,Bj he]) (Bj he _);generalize hP:(fun(d:D) (_:A1)=>Ae d=CL e (Pe cp x))=P;simp only[s119,Ma,M4,A5,gq (e:=e)];generalize hR:QS (call dp) RS _=R
 let J:Nat->List D->A1->Prop:=fun q fr S=>∃k b2 b5 b6 b11 b18 b19 b20 n o,fr=B0 42 [(2,b2),(3,oi e n (QR (Ks cp) x.ts k) o),(5,b5),(6,b6),(8,CL e x),(9,.i .i64 x.ts.length),(10,.i .i64 (k:Nat)),(11,b11),(18,b18),(19,b19),(20,b20)]/\k+q=x.ts.length/\Mj S n (QR (Ks cp) x.ts k).length o/\(n=decide (QR (Ks cp) x.ts k=[]))
 refine AW J ?_ x.ts.length _ _ ⟨0,_,_,_,_,_,_,_,true,.ro,by rw[Gj];rfl,by simp,.inl ⟨rfl,by simp[Gj],rfl⟩,by simp[Gj]⟩;intro q fr S hJ;obtain⟨k,b2o,b5,b6,b11,b18,b19,b20,n,o,C7,hk,hL,hn⟩:=hJ;rw[C7];rw[<-Ay,e119_1];obtain⟨L,hLd⟩:∃L,L=QR (Ks cp) x.ts k:=⟨_,rfl⟩
 have hLl:L.length<=60000:=by have:=R5 (Ks cp) x.ts k;rw[hLd];omega
 rw[<-hLd] at hL hn ⊢;simp[pV];split<;>rename_i h
 .obtain⟨t,ht⟩:=AZ (l:=x.ts) (k:=k) h;have Lp:=hx.ts t (gC ht);have hwt:=PY hw (gC ht);have YO:=Xo hwt;have PJ:QR (Ks cp) x.ts (k+1)=L++[Ks cp t]:=by rw[Oz _ ht,hLd]
  obtain⟨d,S1,q1,q2⟩:=v1187 (nl:=t.nl) (xs:=t.fs.map (EF e)) (S:=B9.box (Cj e t)::S) (fun h=>by rw[Lp.nl h];rfl) (by simp;omega);obtain⟨k1,k2,k3,k4⟩:=q2.arK;have q1:call dp 1187 [BI e t.nl t.fs] (B9.box (Cj e t)::S)=some (d,S1):=q1;obtain⟨Ls,fo⟩:∃Ls,Ls=S.length:=⟨_,rfl⟩
  have hb0:AA S1 Ls=some (.box (Cj e t)):=k3 _ _ (by rw[fo];simp);have hlen:=k1.len;rw[length_map] at hlen
  have hL1:Mj S1 n L.length o:=by
   rcases hL with h|⟨h,t',ho,ai⟩
   .exact .inl h
   .exact .inr ⟨h,t',ho,k3 _ _ (AM ai)⟩
  simp[Bn e _ ht,q1,hlen];rw[<-fo];generalize hR1:QS (call dp) RP _=R1;obtain⟨M,hM⟩:∃M,M=Lw (fun f=>EF e (Gy cp f)) (EF e) t.fs:=⟨_,rfl⟩
  have hd:∀m id o n,d=.ar m id o n->id=S.length+1:=fun m id o n h=>by have:=k4 id n o m h;simpa using this
  let J2:Nat->List D->A1->Prop:=fun q fr T=>∃i b2 b20,fr=B0 42 [(2,b2),(3,oi e n L o),(5,.bx Ls 0),(6,d),(8,CL e x),(9,.i .i64 x.ts.length),(10,.i .i64 (k:Nat)),(11,.top),(18,.i .i64 t.fs.length),(19,.i .i64 (i:Nat)),(20,b20)]/\i+q=t.fs.length /\
   Mj T n L.length o/\AA T Ls=some (.box (Cj e t))/\R3 11 t.nl (Lw (fun f=>EF e (Gy cp f)) (EF e) t.fs i) d T
  refine AW J2 ?_ t.fs.length _ _ ⟨0,_,_,rfl,by simp,hL1,hb0,by rw[Pw];exact k1⟩;intro q2 fr T hJ;obtain⟨i,b2,b20',C7,hi,tL,tb,tA⟩:=hJ;rw[C7];rw[<-Ay,e119_0];simp[qh];have af:∀y,y∈Lw (fun f=>EF e (Gy cp f)) (EF e) t.fs i->y.length=11:=Su _ _ (fun _=>rfl) (fun _=>rfl);split<;>rename_i h2
  .obtain⟨f,hf⟩:=AZ (l:=t.fs) (k:=i) h2;have KB:=Lp.fs f (gC hf);have hwf:=wLe_fc hwt (gC hf);have hg:=Ss (fun f=>EF e (Gy cp f)) (EF e) hf;obtain⟨id,T3,w1,w2,w3,w4,w5,w6,w7⟩:=vz (g:=Gy cp f) tA hg af;have hid:=hd _ id _ _ w1;have hse:EF e { Gy cp f with exp:=f.exp }=EF e (Gy cp f):=rfl;rw[hse] at w5 w6;rw[Tb (fun f=>EF e (Gy cp f)) (EF e) hf] at w6;have hca:=v188 (cp:=cp) he f (fun a ha=>H a (KB.args a ha) (js hwf ha)) (fun p hp=>H p.2 (KB.items p hp).2 (Yb hwf hp)) KB.NG KB.inl (by have:=tY hwf;omega) (by have:=V0 hwf;omega);have fa0:AO 0 (.bx id (i*11))=some (.bx id (i*11)):=rfl;simp only[w2,A5,fa0,w7,hca,w4];rw[Bz (k:=i) (by unfold Bd;omega)];refine⟨q2-1,by omega,i+1,_,_,rfl,by omega,?_,?_,w6⟩
   .rw[w5];exact tL.sy w3
   .rw[w5,AB _ (by omega)];exact tb
  .rw[TZ _ _ (by omega)] at tA;rw[<-hR1];simp only[Ad,AAM,jK];obtain⟨T2,u1,u2⟩:=fzD_ok tA (by intro y hy;obtain⟨f,_,rfl⟩:=List.mem_map.1 hy;rfl)
   have tb2:AA T2 Ls=some (.box (Cj e t)):=by
    rcases u2 with rfl|⟨id,cs,h1,rfl,h3⟩
    .exact tb
    .have:=hd _ _ _ _ h3;rw[AB _ (by omega)];exact tb
   have tL2:Mj T2 n L.length o:=by
    rcases u2 with rfl|⟨id,cs,h1,rfl,h3⟩
    .exact tL
    .exact tL.sy h1
   have fa0:AO 0 (.bx Ls 0)=some (.bx Ls 0):=rfl;have ld0:AE T2 1 false (.bx Ls 0)=some (.i .i64 t.c):=by simp[tb2]
   have hfs':D.sl 11 t.nl (t.fs.map fun f=>EF e (Gy cp f)) .ro=BI e t.nl (t.fs.map (Gy cp)):=by simp[BI,map_map,Function.comp]
   rw[hfs'] at u1;have hb:B8 [.i .i64 0,.sl 11 true [] .ro] [(0,1,false,.i .i64 t.c),(1,1,false,BI e t.nl (t.fs.map (Gy cp)))]=some (Cj e (Ks cp t)):=rfl;have fp:AV 2 true [.agg (Cj e (Ks cp t))]=some [Cj e (Ks cp t)]:=by simp[AV]
   obtain⟨o2,T3,a1,a2,a3⟩:=vn tL2 (Ks cp t) hLl;simp only[u1,A5,fa0,ld0,hb,fp];rw[a1];simp only[A5,GP,Ad,zX,jC,EB];rw[Bz (k:=k) (by unfold Bd;omega)];exact⟨q-1,by omega,k+1,_,_,_,_,_,_,_,false,o2,by rw[PJ],by omega,by rw[PJ];exact a2,by rw[PJ];simp⟩
 .have KQ:L=x.ts.map (Ks cp):=by rw[hLd,RU _ (by omega)]
  rw[<-hR];simp only[Ad,zY,iW]
  have:P (oi e n L o) S:=by
   rw[<-hP];show strip (oi e n L o)=_;have YE:decide (L=[])=decide (x.ts=[]):=by rw[KQ];simp
   rw[hn,YE,KQ];rfl
  simpa using this
end
theorem v119A:∀n (x:Eu n),Bf n x->CD n x<=50000->A0 (call dp) 119 [As n x]=some (As n (Gd n x))
 |0,x=>nomatch x
 |n+1,x=>fun h hw=>v119s (cp:=Gd n) (Az n) (v119A n) x h hw
noncomputable def me(n:Nat)(x:Eu (n+1)):Bool:=Ui (As n) x
theorem v65(n:Nat)(x:Eu (n+1))(h:Bf (n+1) x)(hw:CD (n+1) x<=50000) :
  A0 (call dp) 65 [As (n+1) x]=some (if me n x=true then .AY [As (n+1) (Gd (n+1) x),.i .i64 0] else .AY [.sl 2 true [] .ro,.i .i64 6]):=by
 have h113:A0 (call dp) 113 [As (n+1) x]=some (.b (me n x)):=v113 (Az n) (tT (n+1)) (qX (n+1)) x h;have h119:=v119A (n+1) x h hw;have hg:=Az (n+1);have hs1:=hg.strip x;have Ro:=hg.strip (Gd (n+1) x);have hr:=hg.AG (Gd (n+1) x);cases hf:me n x with
 |true=>
  rw[hf] at h113;simp only[if_true];apply i65 _ _ (by simp[A9,hs1,hg.AG]) (by simp[DE.AG,A9,hr]);simp only[s65,hs1,h113,A5,Cu,Bool.not_true,KN,Bool.false_eq_true,if_false,h119];simp[Ae,stripL,Ro]
 |false=>
  rw[hf] at h113;simp only[Bool.false_eq_true,if_false];apply i65 _ _ (by simp[A9,hs1,hg.AG]) rfl;simp only[s65,hs1,h113,A5,Cu,Bool.not_false,KN,if_true];rfl
section
variable {Z:Type}{c:Z->Z->Int}
theorem mrg_w(w:Z->Nat)(f g:Fc Z):Kw w (mrg f g)=Kw w f:=by unfold mrg;split<;>rfl
theorem oJ(w:Z->Nat)(a b:List (Fc Z)):((BS c a b).map (Kw w)).sum<=(a.map (Kw w)).sum+(b.map (Kw w)).sum:=by
 induction a,b using BS.induct c with
 |case1 b=>simp[BS]
 |case2 a h=>rw[Mb];simp
 |case3 x a y b h ih=>rw[BS,if_pos h];simp only[map_cons,sum_cons] at *;omega
 |case4 x a y b h h2 ih=>rw[BS,if_neg h,if_pos h2];simp only[map_cons,sum_cons] at *;omega
 |case5 x a y b h h2 ih=>rw[BS,if_neg h,if_neg h2];simp only[map_cons,sum_cons,mrg_w] at *;omega
theorem Pk{P:Fc Z->Prop}(hm:∀f z,P f->P { f with exp:=IntKind.wrap .i64 z })(a b:List (Fc Z))(ha:∀f,f∈a->P f)(hb:∀f,f∈b->P f):∀f,f∈BS c a b->P f:=by
 induction a,b using BS.induct c with
 |case1 b=>simpa[BS] using hb
 |case2 a h=>rw[Mb];exact ha
 |case3 x a y b h ih=>
  rw[BS,if_pos h];intro f hf;rcases List.mem_cons.1 hf with rfl|hf
  .exact ha _ (by simp)
  .exact ih (fun f hf=>ha f (by simp[hf])) hb f hf
 |case4 x a y b h h2 ih=>
  rw[BS,if_neg h,if_pos h2];intro f hf;rcases List.mem_cons.1 hf with rfl|hf
  .exact hb _ (by simp)
  .exact ih ha (fun f hf=>hb f (by simp[hf])) f hf
 |case5 x a y b h h2 ih=>
  rw[BS,if_neg h,if_neg h2];intro f hf;rcases List.mem_cons.1 hf with rfl|hf
  .unfold mrg;split
   .exact ha _ (by simp)
   .exact hm _ _ (ha _ (by simp))
  .exact ih (fun f hf=>ha f (by simp[hf])) (fun f hf=>hb f (by simp[hf])) f hf
theorem Yd{P:Fc Z->Prop}(hm:∀f z,P { f with exp:=IntKind.wrap .i64 z }->P f)(hc:∀f g,EU c f g=0->P f->P g)(a b:List (Fc Z))(h:∀f,f∈BS c a b->P f):∀f,f∈b->P f:=by
 induction a,b using BS.induct c with
 |case1 b=>simpa[BS] using h
 |case2 a h=>intro f hf;cases hf
 |case3 x a y b h1 ih=>
  rw[BS,if_pos h1] at h;exact ih fun f hf=>h f (by simp[hf])
 |case4 x a y b h1 h2 ih=>
  rw[BS,if_neg h1,if_pos h2] at h;intro f hf;rcases List.mem_cons.1 hf with rfl|hf
  .exact h _ (by simp)
  .exact ih (fun f hf=>h f (by simp[hf])) f hf
 |case5 x a y b h1 h2 ih=>
  rw[BS,if_neg h1,if_neg h2] at h;intro f hf;rcases List.mem_cons.1 hf with rfl|hf
  .have hp:=h _ (List.mem_cons_self ..)
   have hx:P x:=by
    unfold mrg at hp;split at hp
    .exact hp
    .exact hm _ _ hp
   exact hc x _ (by omega) hx
  .exact ih (fun f hf=>h f (by simp[hf])) f hf
end
end Go.Proofs.YtjniafcnjbbomaaGreatDoor.DE.V
namespace Go.Proofs.YtjniafcnjbbomaaGreatDoor.DE
open Go
def s26:EV:=fun cf a0 S Post=>OX (A0 cf 62 [a0]) fun x1=>OX (ES .not x1) fun x2=>WB x2
 (Post (.AY [(.z 2),(.n 1)]) S)
 (OX (AK false a0) fun x3=>OX (A4 .eql .num x3 (.n 0)) fun x4=>WB x4
 (OX (A0 cf 76 []) fun x5=>Post (.AY [x5,(.n 0)]) S)
 (OX (A0 cf 77 [a0]) fun x6=>WB x6
 (Post (.AY [(.z 2),(.n 0)]) S)
 (OX (AV 1 false [a0]) fun x7=>OX (B8 [.n 0,.n 0,.n 0,.z 1,.n 0,.z 4,.n 0,.n 0,.n 0,.s []] [(0,1,false,(.n 3)),(3,1,false,(.sl 1 false x7 .ro))]) fun x8=>OX (A0 cf 78 [(.agg x8)]) fun x9=>OX (A0 cf 65 [x9]) fun x10=>OX (Ag x10 0) fun x11=>OX (Ag x10 1) fun x12=>Post (.AY [x11,x12]) S)))
def j26:J1 26 s26:=xx d26
def s76:TP0:=fun cf S Post=>OX (B8 [.n 0,.z 11] [(0,1,false,(.n 1))]) fun x1=>OX (AV 2 true [(.agg x1)]) fun x2=>Post (.sl 2 false x2 .ro) S
def i76:I0 76 s76:=mI0 d76
def s78:EV:=fun cf a0 S Post=>Cg 10 true a0 S fun x1 S2=>OX (AE S2 10 true x1) fun x3=>OX (B8 [.n 0,.n 0,.n 0,.z 1,.n 0,.z 4,.n 0,.n 0,.n 0,.s [],.n 0] [(0,10,true,x3),(10,1,false,(.n 1))]) fun x4=>OX (AV 11 true [(.agg x4)]) fun x5=>OX (B8 [.n 0,.z 11] [(0,1,false,(.n 1)),(1,1,false,(.sl 11 false x5 .ro))]) fun x6=>OX (AV 2 true [(.agg x6)]) fun x7=>Post (.sl 2 false x7 .ro) S2
def i78:I1 78 s78:=JF d78
abbrev m20(a1 a4 a5 a6 a8 a19 a20 a21 a22 a25 a26 a27 a28:D):List D:=B0 52 [(1,a1),(4,a4),(5,a5),(6,a6),(8,a8),(19,a19),(20,a20),(21,a21),(22,a22),(25,a25),(26,a26),(27,a27),(28,a28)]
def uL:Po:=fun cf a1 a4 a5 a6 a8 a19 a20 a21 a22 a25 a26 a27 a28 S Q=>OX (A4 .add .num a21 (.n 1)) fun x1=>Q .normal (m20 a1 a4 a5 a6 .top a19 a20 x1 a22 .top .top .top .top) S
def e20_r0:N13 bM m20 uL:=vJ
def s20_0:Po:=fun cf a1 a4 a5 a6 a8 a19 a20 a21 a22 a25 a26 a27 a28 S Q=>OX (A4 .lss .num a27 a26) fun x2=>WB x2
 (OX (Ak 2 a25 a27) fun x3=>OX (AE S 2 true x3) fun x4=>al [.n 0,.z 11] S fun x5 S6=>OX (Ax S6 2 true x5 x4) fun S8=>OX (AO 0 a8) fun x9=>OX (AE S8 1 false x9) fun x10=>OX (AO 0 x5) fun x11=>OX (AE S8 1 false x11) fun x12=>OX (A0 cf 63 [x10,x12]) fun x13=>OX (AO 1 a8) fun x14=>OX (AE S8 1 false x14) fun x15=>OX (AO 1 x5) fun x16=>OX (AE S8 1 false x16) fun x17=>OX (A0 cf 64 [x15,x17]) fun x18=>OX (B8 [.n 0,.z 11] [(0,1,false,x13),(1,1,false,x18)]) fun x19=>OX (AV 2 true [(.agg x19)]) fun x20=>OX (Be 2 false a6 (.sl 2 false x20 .ro) S8) fun p22=>OX (A4 .add .num a27 (.n 1)) fun x23=>Q .normal (m20 a1 a4 a5 p22.1 a8 a19 a20 a21 a22 a25 a26 x23 .top) p22.2)
 (Q (.exit 2) (m20 a1 a4 a5 a6 a8 a19 a20 a21 a22 a25 a26 a27 x2) S)
def e20_0:L13 wi m20 s20_0:=kL13
def pY:Po:=fun cf a1 a4 a5 a6 a8 a19 a20 a21 a22 a25 a26 a27 a28 S Q=>OX (A0 cf 66 [a6]) fun x24=>OX (A0 cf 65 [x24]) fun x25=>OX (Ag x25 0) fun x26=>OX (Ag x25 1) fun x27=>Q .ret (m20 .top x26 x27 .top a8 .top .top .top .top a25 a26 a27 a28) S
def e20_r1:N13 X1 m20 pY:=vJ
def s20_1:Po:=fun cf a1 a4 a5 a6 a8 a19 a20 a21 a22 a25 a26 a27 a28 S Q=>OX (A4 .lss .num a21 a20) fun x28=>WB x28
 (OX (Ak 2 a19 a21) fun x29=>OX (AE S 2 true x29) fun x30=>al [.n 0,.z 11] S fun x31 S32=>OX (Ax S32 2 true x31 x30) fun S34=>OX (AK false a1) fun x35=>W cf (.loop [] wi) (m20 a1 a4 a5 a6 x31 a19 a20 a21 .top a1 x35 (.n 0) a28) S34 (Af 2 (Af 1 (QS cf bM Q))))
 (Q (.exit 0) (m20 a1 a4 a5 a6 a8 a19 a20 a21 x28 a25 a26 a27 a28) S)
def e20_1:L13 sT m20 s20_1:=kL13
def s20:Cn:=fun cf a0 a1 S Post=>OX (A0 cf 62 [a0]) fun x36=>OX (ES .not x36) fun x37=>OX (A8 x37 false (some a1)) fun x38=>OX (A8 x37 false (A0 cf 62 [x38])) fun x39=>OX (A8 x37 false (ES .not x39)) fun x40=>OX (AU x37 (.b true) x40) fun x41=>WB x41
 (Post (.AY [(.z 2),(.n 1)]) S)
 (OX (AK false a0) fun x42=>W cf (.loop [] sT) (m20 a1 .top .top (.z 2) .top a0 x42 (.n 0) .top .top .top .top .top) S (Af 0 (QS cf X1 (Aw [.t 4,.t 5] Post))))
def j20:J2 20 s20:=UE d20
def s21:Pq:=fun cf a0 a1 a2 S Post=>al [.z 1,.z 1] S fun x1 S2=>OX (A0 cf 14 [a2]) fun x3=>OX (ES .not x3) fun x4=>WB x4
 (OX (B8 [.z 1,.z 1] []) fun x5=>OX (Ax S2 2 true x1 (.agg x5)) fun S7=>OX (CE S7 2 true x1) fun x8=>Post (.AY [x8,(.n 1)]) S7)
 (OX (A0 cf 68 [a0]) fun x9=>OX (A0 cf 67 [x9,a0,a1]) fun x10=>OX (Ag x10 0) fun x11=>OX (Ag x10 1) fun x12=>al [.z 2,.z 3,.n 0] S2 fun x13 S14=>OX (Ax S14 3 true x13 x11) fun S16=>OX (A4 .neq .num x12 (.n 0)) fun x17=>WB x17
 (OX (B8 [.z 1,.z 1] []) fun x18=>OX (Ax S16 2 true x1 (.agg x18)) fun S20=>OX (CE S20 2 true x1) fun x21=>Post (.AY [x21,x12]) S20)
 (OX (AE S16 3 true x13) fun x22=>OX (A0 cf 9 [x22,a2]) fun x23=>OX (Ag x23 0) fun x24=>OX (Ag x23 1) fun x25=>OX (Ax S16 2 true x1 x24) fun S27=>OX (CE S27 2 true x1) fun x28=>Post (.AY [x28,x25]) S27))
def j21:J3 21 s21:=mJ3 d21
def s23:lX:=fun cf a0 a1 a2 a3 S Post=>al [.z 1,.z 1] S fun x1 S2=>OX (A0 cf 20 [a0,a1]) fun x3=>OX (Ag x3 0) fun x4=>OX (Ag x3 1) fun x5=>OX (A4 .neq .num x5 (.n 0)) fun x6=>WB x6
 (OX (B8 [.z 1,.z 1] []) fun x7=>OX (Ax S2 2 true x1 (.agg x7)) fun S9=>OX (CE S9 2 true x1) fun x10=>Post (.AY [x10,x5]) S9)
 (OX (A0 cf 21 [x4,a2,a3]) fun x11=>OX (Ag x11 0) fun x12=>OX (Ag x11 1) fun x13=>al [.z 1,.z 1] S2 fun x14 S15=>OX (Ax S15 2 true x14 x12) fun S17=>OX (A4 .neq .num x13 (.n 0)) fun x18=>WB x18
 (OX (B8 [.z 1,.z 1] []) fun x19=>OX (Ax S17 2 true x1 (.agg x19)) fun S21=>OX (CE S21 2 true x1) fun x22=>Post (.AY [x22,x13]) S21)
 (OX (A0 cf 21 [a1,a2,a3]) fun x23=>OX (Ag x23 0) fun x24=>OX (Ag x23 1) fun x25=>al [.z 1,.z 1] S17 fun x26 S27=>OX (Ax S27 2 true x26 x24) fun S29=>OX (A4 .neq .num x25 (.n 0)) fun x30=>WB x30
 (OX (B8 [.z 1,.z 1] []) fun x31=>OX (Ax S29 2 true x1 (.agg x31)) fun S33=>OX (CE S33 2 true x1) fun x34=>Post (.AY [x34,x25]) S33)
 (OX (AO 0 x26) fun x35=>OX (AE S29 1 false x35) fun x36=>OX (AK false x36) fun x37=>OX (A4 .eql .num x37 (.n 0)) fun x38=>WB x38
 (OX (B8 [.z 1,.z 1] []) fun x39=>OX (Ax S29 2 true x1 (.agg x39)) fun S41=>OX (CE S41 2 true x1) fun x42=>Post (.AY [x42,(.n 2)]) S41)
 (OX (AO 0 x14) fun x43=>OX (AE S29 1 false x43) fun x44=>OX (AO 1 x26) fun x45=>OX (AE S29 1 false x45) fun x46=>OX (A0 cf 70 [x44,x46]) fun x47=>OX (Ag x47 0) fun x48=>OX (Ag x47 1) fun x49=>OX (A4 .neq .num x49 (.n 0)) fun x50=>WB x50
 (OX (B8 [.z 1,.z 1] []) fun x51=>OX (Ax S29 2 true x1 (.agg x51)) fun S53=>OX (CE S53 2 true x1) fun x54=>Post (.AY [x54,x49]) S53)
 (OX (AO 1 x14) fun x55=>OX (AE S29 1 false x55) fun x56=>OX (AO 0 x26) fun x57=>OX (AE S29 1 false x57) fun x58=>OX (A0 cf 70 [x56,x58]) fun x59=>OX (Ag x59 0) fun x60=>OX (Ag x59 1) fun x61=>OX (A4 .neq .num x61 (.n 0)) fun x62=>WB x62
 (OX (B8 [.z 1,.z 1] []) fun x63=>OX (Ax S29 2 true x1 (.agg x63)) fun S65=>OX (CE S65 2 true x1) fun x66=>Post (.AY [x66,x61]) S65)
 (OX (A0 cf 71 [x48,x60]) fun x67=>OX (Ag x67 0) fun x68=>OX (Ag x67 1) fun x69=>OX (Ax S29 2 true x1 x68) fun S71=>OX (CE S71 2 true x1) fun x72=>Post (.AY [x72,x69]) S71))))))
def j23:J4 23 s23:=mJ4 d23
abbrev m19(a0 a1 a4 a5 a9:D):List D:=B0 29 [(0,a0),(1,a1),(4,a4),(5,a5),(9,a9)]
def uH:V7:=fun cf a0 a1 a4 a5 a9 S Q=>Q .ret (m19 .top .top (.b true) .top .top) S
def e19_r0:N5 Ww m19 uH:=kN5
def s19_0:V7:=fun cf a0 a1 a4 a5 a9 S Q=>OX (AK false a1) fun x1=>OX (A4 .lss .num a5 x1) fun x2=>WB x2
 (OX (Ak 1 a1 a5) fun x3=>OX (AE S 1 false x3) fun x4=>OX (AV 1 false [x4]) fun x5=>OX (A0 cf 25 [(.n 40),(.sl 1 false x5 .ro)]) fun x6=>OX (ES .not x6) fun x7=>OX (A8 x7 false (some a1)) fun x8=>OX (A8 x7 false (some a5)) fun x9=>OX (A8 x7 false (Ak 1 x8 x9)) fun x10=>OX (A8 x7 false (AE S 1 false x10)) fun x11=>OX (A8 x7 false (A0 cf 61 [x11])) fun x12=>OX (A8 x7 false (AK false x12)) fun x13=>OX (A8 x7 false (some a0)) fun x14=>OX (A8 x7 false (A4 .gtr .num x13 x14)) fun x15=>OX (AU x7 (.b true) x15) fun x16=>WB x16
 (Q .ret (m19 .top .top (.b false) .top .top) S)
 (OX (A4 .add .num a5 (.n 1)) fun x17=>Q .normal (m19 a0 a1 a4 x17 .top) S))
 (Q (.exit 0) (m19 a0 a1 a4 a5 x2) S)
def e19_0:L5 tf m19 s19_0:=kL5
def s19:Cn:=fun cf a0 a1 S Post=>W cf (.loop [] tf) (m19 a0 a1 .top (.n 0) .top) S (Af 0 (QS cf Ww (Aw [.t 4] Post)))
def j19:J2 19 s19:=UE d19
def s6:Pq:=fun cf a0 a1 a2 S Post=>OX (A0 cf 7 [a2]) fun x1=>OX (ES .not x1) fun x2=>OX (A8 x2 false (some a0)) fun x3=>OX (A8 x2 false (some a1)) fun x4=>OX (A8 x2 false ((AV 1 false [x3,x4]).map fun l=>.sl 1 false l .ro)) fun x5=>OX (A8 x2 false (A0 cf 19 [(.n 4),x5])) fun x6=>OX (A8 x2 false (ES .not x6)) fun x7=>OX (AU x2 (.b true) x7) fun x8=>OX (A8 x8 false (some a0)) fun x9=>OX (A8 x8 false (some a1)) fun x10=>OX (A8 x8 false ((AV 1 false [x9,x10]).map fun l=>.sl 1 false l .ro)) fun x11=>OX (A8 x8 false (A0 cf 25 [(.n 30),x11])) fun x12=>OX (A8 x8 false (ES .not x12)) fun x13=>OX (AU x8 (.b true) x13) fun x14=>WB x14
 (OX (A0 cf 8 []) fun x15=>Post x15 S)
 (OX (A0 cf 21 [a0,(.n 4096),a2]) fun x16=>OX (Ag x16 0) fun x17=>OX (Ag x16 1) fun x18=>al [.z 1,.z 1] S fun x19 S20=>OX (Ax S20 2 true x19 x17) fun S22=>OX (A0 cf 26 [a0]) fun x23=>OX (Ag x23 0) fun x24=>OX (Ag x23 1) fun x25=>OX (A0 cf 21 [x24,(.n 4096),a2]) fun x26=>OX (Ag x26 0) fun x27=>OX (Ag x26 1) fun x28=>al [.z 1,.z 1] S22 fun x29 S30=>OX (Ax S30 2 true x29 x27) fun S32=>OX (A4 .eql .num x18 (.n 0)) fun x33=>OX (A8 x33 true (some x25)) fun x34=>OX (A8 x33 true (A4 .eql .num x34 (.n 0))) fun x35=>OX (AU x33 x35 (.b false)) fun x36=>OX (A8 x36 true (some x28)) fun x37=>OX (A8 x36 true (A4 .eql .num x37 (.n 0))) fun x38=>OX (AU x36 x38 (.b false)) fun x39=>jn (fun(y41 y42 y43 y44 y45 y46 y47:D) (S48:A1)=>OX (A0 cf 23 [y41,y42,(.n 4096),y43]) fun x49=>OX (Ag x49 0) fun x50=>OX (Ag x49 1) fun x51=>al [.z 1,.z 1] S48 fun x52 S53=>OX (Ax S53 2 true x52 x50) fun S55=>OX (A0 cf 21 [y42,(.n 4096),y43]) fun x56=>OX (Ag x56 0) fun x57=>OX (Ag x56 1) fun x58=>al [.z 1,.z 1] S55 fun x59 S60=>OX (Ax S60 2 true x59 x57) fun S62=>OX (A0 cf 20 [y41,y42]) fun x63=>OX (Ag x63 0) fun x64=>OX (Ag x63 1) fun x65=>OX (A0 cf 21 [x64,(.n 4096),y43]) fun x66=>OX (Ag x66 0) fun x67=>OX (Ag x66 1) fun x68=>al [.z 1,.z 1] S62 fun x69 S70=>OX (Ax S70 2 true x69 x67) fun S72=>OX (A4 .neq .num x51 (.n 0)) fun x73=>OX (A8 x73 false (some x58)) fun x74=>OX (A8 x73 false (A4 .neq .num x74 (.n 0))) fun x75=>OX (AU x73 (.b true) x75) fun x76=>OX (A8 x76 false (some x65)) fun x77=>OX (A8 x76 false (A4 .neq .num x77 (.n 0))) fun x78=>OX (AU x76 (.b true) x78) fun x79=>OX (A8 x79 false (some x68)) fun x80=>OX (A8 x79 false (A4 .neq .num x80 (.n 0))) fun x81=>OX (AU x79 (.b true) x81) fun x82=>WB x82
 (OX (A0 cf 8 []) fun x83=>Post x83 S72)
 (OX (AE S72 2 true x52) fun x84=>OX (AE S72 2 true x59) fun x85=>OX (A0 cf 29 [x84,x85]) fun x86=>OX (Ag x86 0) fun x87=>OX (Ag x86 1) fun x88=>al [.z 1,.z 1] S72 fun x89 S90=>OX (Ax S90 2 true x89 x87) fun S92=>OX (A4 .eql .num x88 (.n 0)) fun x93=>OX (A8 x93 true (AE S92 2 true x89)) fun x94=>OX (A8 x93 true (AE S92 2 true x69)) fun x95=>OX (A8 x93 true (A0 cf 16 [x94,x95])) fun x96=>OX (AU x93 x96 (.b false)) fun x97=>OX (A8 x97 true (AE S92 2 true x52)) fun x98=>OX (A8 x97 true (A0 cf 30 [x98])) fun x99=>OX (AU x97 x99 (.b false)) fun x100=>OX (A8 x100 true (A0 cf 8 [])) fun x101=>OX (AU x100 x101 (.b false)) fun x102=>Post x102 S92)) fun k40=>WB x39
 (OX (AE S32 2 true x19) fun x103=>OX (AE S32 2 true x29) fun x104=>OX (A0 cf 27 [x103,x104]) fun x105=>OX (Ag x105 0) fun x106=>OX (Ag x105 1) fun x107=>al [.z 1,.z 1] S32 fun x108 S109=>OX (Ax S109 2 true x108 x106) fun S111=>OX (A4 .neq .num x107 (.n 0)) fun x112=>OX (A8 x112 false (AE S111 2 true x108)) fun x113=>OX (A8 x112 false (A0 cf 28 [])) fun x114=>OX (A8 x112 false (A0 cf 16 [x113,x114])) fun x115=>OX (A8 x112 false (ES .not x115)) fun x116=>OX (AU x112 (.b true) x116) fun x117=>WB x117
 (Post (.b false) S111)
 (k40 a0 a1 a2 D.top D.top D.top x117 S111))
 (k40 a0 a1 a2 x19 x29 x39 D.top S32))
def e6:E3 d6 s6:=yG
def i6:I3 6 s6:=mI3 d6 (e:=e6)
end Go.Proofs.YtjniafcnjbbomaaGreatDoor.DE
