/- Joined texts. -/
import Derived.Test.YtjniafcnjbbomaaGreatDoorQx1
import Derived.MapKept
import Derived.Orders
import Derived.Tactics
set_option linter.all false
open List (all_eq_true cons_append eq_nil_of_length_eq_zero getElem?_take_of_lt getElem?_zipIdx length_append length_cons length_set length_take mem_append mem_cons nil_append size_toArray)
open Bool (and_eq_true false_eq_true or_eq_true)
open Option (getD_some map_some)
open Nat (add_comm add_mul add_zero le_refl lt_or_ge mod_lt zero_add)
open Array (empty_append ext' getD getElem?_eq_getElem size_append)
namespace Go.Proofs.YtjniafcnjbbomaaGreatDoor.DE
section
open Go
variable [Ga]
section
variable {P:Program}{dp:Nat->Option Fn}{F F':GD}{G G':List Gh}{w w':World}{S S':A1}{a:Act}{fr:List D}{o:Oper}{d:D}
theorem same1{k:SK}{x y:D}{u v:Value}(n:Nat)(h:QZ (.one k) x y=some true)(hu:Rel dp F G w u x)(hv:Rel dp F G w v y):Instr.sameBits n u v=true:=by
 simp only[QZ] at h;split at h
 .rename_i hc;simp only[and_eq_true] at hc;cases hu<;>simp only[seq1] at h<;>try (cases h;done)
  .cases hv<;>simp only at h<;>try (cases h;done)
   simpa[Instr.sameBits] using h
  .cases hv<;>simp only at h<;>try (cases h;done)
   split at h
   .rename_i hk;subst hk;simpa[Instr.sameBits] using h
   .cases h
  .cases hv<;>simp only at h<;>try (cases h;done)
   injection h with h
   simp only[beq_iff_eq] at h;subst h;simp[Instr.sameBits,beq_toListBytes]
 .cases h
theorem ZK:∀{ks:List SK} {xs ys:List D},Ew ks xs ys=some true->∀(j:Nat) (x y:D),xs[j]? = some x->ys[j]? = some y->∃k,QZ (.one k) x y=some true
 |[],[],[],_,_,_,_,h,_=>by simp at h
 |[],_::_,_,h,_,_,_,_,_=>by simp[Ew] at h
 |[],[],_::_,h,_,_,_,_,_=>by simp[Ew] at h
 |_::_,[],_,h,_,_,_,_,_=>by simp[Ew] at h
 |_::_,_::_,[],h,_,_,_,_,_=>by simp[Ew] at h
 |k::ks,x::l,y::m,h,j,x',y',hx,hy=>by
  simp only[Ew] at h;split at h
  .rename_i hc;split at h
   .rename_i p q h1 h2;injection h with h
    simp only[and_eq_true] at h;obtain⟨rfl,rfl⟩:=h
    match j with
    |0=>
     simp at hx hy;subst hx hy;exact⟨k,by simp only[QZ];rw[if_pos hc];exact h1⟩
    |j+1=>exact ZK h2 j x' y' (by simpa using hx) (by simpa using hy)
   .cases h
  .cases h
theorem rp{kk:KK}{x y:D}{u v:Value}(h:QZ kk x y=some true)(hu:Rel dp F G w u x)(hv:Rel dp F G w v y):Instr.sameBits 10000 u v=true:=by
 cases kk with
 |one k=>exact same1 _ h hu hv
 |agg ks=>
  cases x<;>simp only[QZ] at h<;>try (cases h;done)
  cases y<;>simp only at h<;>try (cases h;done)
  rename_i xs ys;obtain⟨us,rfl⟩:=Mf hu;obtain⟨vs,rfl⟩:=Mf hv;cases hu with
  |agg _ _ pE h1=>
   cases hv with
   |agg _ _ YB h2=>
    obtain⟨l1,l2⟩:=K5 h;show Instr.sameBits (9999+1) (.agg us) (.agg vs)=true;simp only[Instr.sameBits,and_eq_true,beq_iff_eq,all_eq_true];refine⟨by omega,?_⟩;rintro⟨p,q⟩ hpq;obtain⟨j,hj,hz⟩:=List.getElem_of_mem hpq;simp only[List.length_zip,Array.length_toList] at hj;have hz':=hz;simp only[List.getElem_zip,Prod.mk.injEq,Array.getElem_toList] at hz';have hx:j<xs.length:=by omega
    have hy:j<ys.length:=by omega
    obtain⟨k,hk⟩:=ZK h j xs[j] ys[j] (gA hx) (gA hy);refine same1 (dp:=dp) (F:=F) (G:=G) (w:=w) 9999 hk (h1 j p _ ?_ (gA hx)) (h2 j q _ ?_ (gA hy))
    .rw[getElem?_eq_getElem (by omega),hz'.1]
    .rw[getElem?_eq_getElem (by omega),hz'.2]
theorem sD{kk:KK}{x y:D}(h:QZ kk x y=some true):QZ kk y x=some true:=by
 have s1:∀{x y:D},seq1 x y=some true->seq1 y x=some true:=by
  intro x y h;unfold seq1 at h;split at h
  .injection h with h;simp only[beq_iff_eq] at h;subst h;simp[seq1]
  .split at h
   .rename_i hk;subst hk;injection h with h;simp only[beq_iff_eq] at h;subst h;simp[seq1]
   .cases h
  .injection h with h;simp only[beq_iff_eq] at h;subst h;simp[seq1]
  .cases h
 cases kk with
 |one k=>
  simp only[QZ] at h ⊢;split at h
  .rename_i hc;rw[if_pos (by simpa[and_comm] using hc)];exact s1 h
  .cases h
 |agg ks=>
  cases x<;>simp only[QZ] at h<;>try (cases h;done)
  cases y<;>simp only at h<;>try (cases h;done)
  rename_i xs ys;simp only[QZ]
  induction ks generalizing xs ys with
  |nil=>
   cases xs<;>cases ys<;>simp_all [Ew]
  |cons k ks ih=>
   cases xs with
   |nil=>simp[Ew] at h
   |cons x xs=>
    cases ys with
    |nil=>simp[Ew] at h
    |cons y ys=>
     simp only[Ew] at h ⊢;split at h
     .rename_i hc;rw[if_pos (by simpa[and_comm] using hc)];split at h
      .rename_i p q h1 h2;injection h with h
       simp only[and_eq_true] at h;obtain⟨rfl,rfl⟩:=h;rw[s1 h1,ih xs ys h2];rfl
      .cases h
     .cases h
theorem VG{kk:KK}{x y:D}{u v:Value}(h:QZ kk x y=some true)(hu:Rel dp F G w u x)(hv:Rel dp F G w v y):(Instr.keyThatStays v u).run P w=.ok u w:=by simp only[Instr.keyThatStays,rp (sD h) hv hu,if_true,Sem.run_pure]
theorem cN{r:Nat}{es:Array MapEntry}{c:Nat}(x:Obj)(h:w.heap[r]? = some (.map es c)):(setObj r x).run P w=.ok () { w with heap:=w.heap.setIfInBounds r x }:=by simp only[setObj,Sem.run,h]
theorem nL{r:Nat}{x y:Obj}(h:w.heap[r]? = some y):V9 w r x { w with heap:=w.heap.setIfInBounds r x }:=by have Ap:=On h;exact⟨by simp[Ap],fun k hk=>by simp[Array.getElem?_setIfInBounds_ne (Ne.symm hk)],by simp,rfl,⟨rfl,Ga.refl _⟩,rfl⟩
theorem BX.MD(hs:BX dp F G w S){id:Nat}{g:Gh}{es OI:List (D×D)}{VZ:Array MapEntry}(he:AA S id=some (.map es))(hg:AA G id=some g)(Cw:VZ.size=OI.length)
  (hp:∀(j:Nat) (e:MapEntry) (d:D×D),VZ[j]? = some e->OI[j]? = some d->e.born=j/\Rel dp F G w e.key d.1/\Rel dp F G w e.val d.2) :
  ∃w',(setObj g.blk (.map VZ OI.length)).run P w=.ok () w'/\(BX dp F G w' (sset S id (.map OI))/\Ext F G w S F G w' (sset S id (.map OI))) /\
   (∀v d,Rel dp F G w v d->Rel dp F G w' v d):=by
 obtain⟨Bv,e1,e2,e3⟩:=hs.aV id _ g he hg
 have OC:∀o,¬F g.blk o:=by intro o h;obtain⟨v,hv⟩:=hs.U1 _ _ h;simp[World.cell?,e1] at hv
 have hw:=nL (w:=w) (x:=.map VZ OI.length) e1
 have hm:∀v d,Rel dp F G w v d->Rel dp F G { w with heap:=w.heap.setIfInBounds g.blk (.map VZ OI.length) } v d:=by intro v d h;refine h.mono (fun _ _ h=>h) (fun _ _ h=>h) fun b o h=>?_;exact World.cell?_of_block (a:=⟨b,o,none⟩) (hw.other b fun heq=>OC o (heq▸h))
 refine⟨_,cN _ e1,hs.write he hg trivial hw (fun o h=>(OC o h).elim) (fun _ _ h=>h) (fun _ _ h=>.inl h)
  ⟨VZ,hw.at_,Cw,fun j e d h1 h2=>?_⟩,hm⟩
 obtain⟨a1,a2,a3⟩:=hp j e d h1 h2;exact⟨a1,hm _ _ a2,hm _ _ a3⟩
theorem Pn{kk:KK}{key:D}:∀{es:List (D×D)} {j:Nat} {p:Nat},Hf kk key es j=some (some p)->∃k v,es[p-j]? = some (k,v)/\j<=p/\QZ kk key k=some true
 |[],_,_,h=>by simp[Hf] at h
 |(k,v)::es,j,p,h=>by
  simp only[Hf] at h;split at h
  .rename_i hk;injection h with h;injection h with h;subst h
   exact⟨k,v,by simp,le_refl _,hk⟩
  .obtain⟨k',v',h1,h2,h3⟩:=Pn h;refine⟨k',v',?_,by omega,h3⟩;rw[show p-j=(p-(j+1))+1 by omega];exact h1
  .cases h
theorem jz{kk:KK}{key v:D}:∀{es OI:List (D×D)} (j:Nat),oy kk key v es=some OI->∃p,Hf kk key es j=some p /\
  ((p=none/\OI=es++[(key,v)])\/∃q,p=some (j+q)/\q<es.length/\OI=es.set q (key,v))
 |[],OI,j,h=>by
  simp only[oy] at h;injection h with h
  exact⟨none,rfl,.inl ⟨rfl,h.symm⟩⟩
 |(k,u)::es,OI,j,h=>by
  simp only[oy] at h;split at h
  .rename_i hk;injection h with h
   exact⟨some j,by simp[Hf,hk],.inr ⟨0,rfl,by simp,h.symm⟩⟩
  .rename_i hk;cases hr:oy kk key v es with
   |none=>simp[hr] at h
   |some r=>
    simp only[hr,map_some,Option.some.injEq] at h;subst h;obtain⟨p,hp,hh⟩:=jz (j+1) hr;refine⟨p,by simp[Hf,hk,hp],?_⟩;rcases hh with⟨h1,h2⟩|⟨q,h1,h2,h3⟩
    .exact .inl ⟨h1,by rw[h2];rfl⟩
    .exact .inr ⟨q+1,by rw[h1];congr 1;omega,by simp;omega,by rw[h3];rfl⟩
  .cases h
theorem TN{key:D}:∀{j:Nat} {es:List (D×D)} {e:D×D},es[j]? = some e->cY key j es=es.set j (key,e.2)
 |_,[],_,h=>by simp at h
 |0,(k,v)::es,e,h=>by simp at h;subst h;rfl
 |j+1,x::es,e,h=>by simp only[cY,List.set_cons_succ];rw[TN (by simpa using h)]
theorem SQ{v:D}:∀{j:Nat} {es:List (D×D)} {e:D×D},es[j]? = some e->Xi v j es=es.set j (e.1,v)
 |_,[],_,h=>by simp at h
 |0,(k,u)::es,e,h=>by simp at h;subst h;rfl
 |j+1,x::es,e,h=>by simp only[Xi,List.set_cons_succ];rw[SQ (by simpa using h)]
def Hq(dp:Nat->Option Fn)(F:GD)(G:List Gh)(w:World)(Bv:Array MapEntry)(es:List (D×D)):Prop:=
 Bv.size=es.length/\∀(j:Nat) (e:MapEntry) (d:D×D),Bv[j]? = some e->es[j]? = some d->e.born=j/\Rel dp F G w e.key d.1/\Rel dp F G w e.val d.2
theorem Hq.push{Bv:Array MapEntry}{es:List (D×D)}{k v:Value}{x y:D}(h:Hq dp F G w Bv es)(hk:Rel dp F G w k x)(hv:Rel dp F G w v y) :
  Hq dp F G w (Bv.push { key:=k,val:=v,born:=es.length }) (es++[(x,y)]):=by
 refine⟨by simp[h.1],fun j e d he hd=>?_⟩;rw[Array.getElem?_push] at he;by_cases hj:j=es.length
 .subst hj;rw[if_pos h.1.symm] at he;injection he with he;subst he
  simp at hd;subst hd;exact⟨rfl,hk,hv⟩
 .rw[h.1,if_neg hj] at he;have Ap:j<es.length:=by rw[<-h.1];exact(Array.getElem?_eq_some_iff.1 he).1
  rw[gE Ap] at hd;exact h.2 j e d he hd
theorem Hq.modify{Bv:Array MapEntry}{es:List (D×D)}{f:MapEntry->MapEntry}{q:Nat}{y:D×D}(h:Hq dp F G w Bv es)(hq:q<es.length)
  (hf:∀e,Bv[q]? = some e->(f e).born=e.born/\Rel dp F G w (f e).key y.1/\Rel dp F G w (f e).val y.2):Hq dp F G w (Bv.modify q f) (es.set q y):=by
 refine⟨by simp[h.1],fun j e d he hd=>?_⟩;rw[Array.getElem?_modify] at he;rw[List.getElem?_set] at hd;by_cases hj:q=j
 .subst hj;have Ap:q<Bv.size:=by rw[h.1];exact hq
  have fU:=h.2 q Bv[q] es[q] (getElem?_eq_getElem Ap) (gA hq);simp[Ap] at he;simp[hq] at hd;subst he hd;obtain⟨a1,a2,a3⟩:=hf Bv[q] (getElem?_eq_getElem Ap);exact⟨by rw[a1];exact fU.1,a2,a3⟩
 .rw[if_neg hj] at he hd;exact h.2 j e d he hd
theorem Hq.get{Bv:Array MapEntry}{es:List (D×D)}(h:Hq dp F G w Bv es){q:Nat}{e:D×D}(hq:es[q]? = some e):∃en,Bv[q]? = some en/\en.born=q/\Rel dp F G w en.key e.1/\Rel dp F G w en.val e.2:=by
 have Ap:q<Bv.size:=by rw[h.1];exact(gB.1 hq).1
 exact⟨Bv[q],getElem?_eq_getElem Ap,h.2 q _ e (getElem?_eq_getElem Ap) hq⟩
theorem eH{id:Nat}{g:Gh}{es:List (D×D)}(hs:BX dp F G w S)(K9:AA S id=some (.map es))(hg:AA G id=some g) :
  ∃Bv:Array MapEntry,w.heap[g.blk]? = some (.map Bv es.length)/\Hq dp F G w Bv es/\O3 dp F G w Bv.toList es:=by
 obtain⟨Bv,h1,h2,h3⟩:=hs.aV id _ g K9 hg;exact⟨Bv,h1,⟨h2,h3⟩,⟨by simpa using h2,fun j e d he hd=>(h3 j e d (by simpa using he) hd).2⟩⟩
theorem qz{Bv:Array MapEntry}{p:Nat}{e:MapEntry}(h:Bv[p]? = some e):hit Bv.toList 0 (some p)=some (p,e.val):=by simp[hit,h]
theorem cQ{kk:KK}{t kt et:TypeId}{vk vv:Value}{kd vd:D}{id:Nat}{g:Gh}{es OI:List (D×D)}(hs:BX dp F G w S)(hu:P.underlying t=some (.map kt et))(oO:UQ P kt kk=true)
  (hk:isKey kk kd=true) (r2:Rel dp F G w vk kd) (r3:Rel dp F G w vv vd) (hg:AA G id=some g) (K9:AA S id=some (.map es)) (he:oy kk kd vd es=some OI) :
  ∃w',(Instr.mapUpdate t (.map (some g.blk)) vk vv).run P w=.ok () w'/\(BX dp F G w' (sset S id (.map OI))/\Ext F G w S F G w' (sset S id (.map OI))):=by
 obtain⟨Bv,h1,h2,h3⟩:=eH hs K9 hg;obtain⟨p,hp,hh⟩:=jz 0 he;have oP:=OL (P:=P) (t:=kt) oO r2 hk h3 hp;have UF:=fun b=>run_checkKey (P:=P) (w:=w) b 9998 oO hk r2;rcases hh with⟨rfl,rfl⟩|⟨q,rfl,hq,rfl⟩
 .obtain⟨w',a1,a2,_⟩:=hs.MD (P:=P) K9 hg (h2.push r2 r3).1 (h2.push r2 r3).2;refine⟨w',?_,a2⟩;simp only[length_append,List.length_singleton] at a1;simp only[Instr.mapUpdate,Sem.run_bind,run_underlying hu,Result.andThen,GJ h1,UF,oP,hit,a1]
 .obtain⟨kx,vx,b1,_,b3⟩:=Pn hp;simp only[zero_add,Nat.sub_zero] at b1 hp oP;obtain⟨en,c1,c2,c3,c4⟩:=h2.get b1;have Er:=VG (P:=P) b3 r2 c3;have Qx:Hq dp F G w (Bv.modify q fun e=>{ e with key:=vk,val:=vv }) (es.set q (kd,vd)):=h2.modify hq fun e _=>⟨rfl,r2,r3⟩
  obtain⟨w',a1,a2,_⟩:=hs.MD (P:=P) K9 hg Qx.1 Qx.2;refine⟨w',?_,a2⟩;rw[length_set] at a1;rw[qz c1] at oP;simp only[Instr.mapUpdate,Sem.run_bind,run_underlying hu,Result.andThen,GJ h1,UF,oP,c1,map_some,getD_some,Er,a1]
theorem ok_mu{kk:KK}{m key v:A}{id:Nat}{es OI:List (D×D)}(hm:mR P dp o.op (.mu kk m key v)=true)(hs:BX dp F G w S)(hf:Fr dp F G w a fr)(hk:isKey kk (av fr key)=true)
  (h1:av fr m=.mp id) (h2:AA S id=some (.map es)) (h3:oy kk (av fr key) (av fr v) es=some OI):Lk P dp F G w S a o (.AY []) (sset S id (.map OI)):=by
 have fin:∀(t:TypeId) (x i u:Operand),(match P.underlying t with|some (.map kt _)=>UQ P kt kk|_=>false)=true->mA dp x m=true->mA dp i key=true->mA dp u v=true ->
   ∃w',(Instr.mapUpdate t (a.eval x) (a.eval i) (a.eval u)).run P w=.ok () w'/\(BX dp F G w' (sset S id (.map OI))/\Ext F G w S F G w' (sset S id (.map OI))):=by
  intro t x i u ht hx hi hu;split at ht
  .rename_i kt et Rn;have r1:=hf.eval hx;rw[h1] at r1;generalize Lh:a.eval x=v1 at r1;cases r1 with
   |mp _ g hg=>exact cQ hs Rn ht hk (hf.eval hi) (hf.eval hu) hg h2 h3
  .cases ht
 simp only[mR] at hm;split at hm
 .rename_i t x i u ho;simp only[and_eq_true] at hm;obtain⟨w',a1,a2⟩:=fin t x i u hm.1.1.1 hm.1.1.2 hm.1.2 hm.2;refine Mg ?_ a2;simp only[execOp,ho,Sem.run_bind,a1,Result.andThen,Sem.run_pure]
 .rename_i t x i u ho;simp only[and_eq_true] at hm;obtain⟨w',a1,a2⟩:=fin t x i u hm.1.1.1 hm.1.1.2 hm.1.2 hm.2;refine Mg ?_ a2;simp only[execOp,ho,Sem.run_bind,a1,Result.andThen,Sem.run_pure]
 .cases hm
def Ox(z key:D)(es:List (D×D))(id:Nat)(S:A1):Option Nat->Option (D×A1)
 |some j=>match es[j]? with
  |some e=>some (.AY [e.2,.i .i64 j],sset S id (.map (cY key j es)))
  |none=>none
 |none=>some (.AY [z,.i .i64 es.length],sset S id (.map (es++[(key,z)])))
theorem km{kk:KK}{z:D}{m key:A}{id:Nat}{es:List (D×D)}{p:Option Nat}{r:D×A1}(hm:mR P dp o.op (.U0 kk z m key)=true)(hs:BX dp F G w S)(hf:Fr dp F G w a fr)(hk:isKey kk (av fr key)=true)
  (h1:av fr m=.mp id) (h2:AA S id=some (.map es)) (h3:Hf kk (av fr key) es 0=some p) (h4:Ox z (av fr key) es id S p=some r):Lk P dp F G w S a o r.1 r.2:=by
 simp only[mR] at hm;split at hm
 .rename_i t x i ho;simp only[and_eq_true] at hm;obtain⟨⟨ht,hx⟩,hi⟩:=hm;split at ht
  .rename_i kt et hu;simp only[and_eq_true] at ht;obtain⟨oO,hz⟩:=ht;have r1:=hf.eval hx;have r2:=hf.eval hi;rw[h1] at r1;generalize Lh:a.eval x=v1 at r1;generalize EM:a.eval i=v2 at r2;cases r1 with
   |mp _ g hg=>
    obtain⟨zv,hzr,VY⟩:=Uh (P:=P) (dp:=dp) (F:=F) (G:=G) (w:=w) hz;obtain⟨Bv,e1,e2,e3⟩:=eH hs h2 hg;have oP:=OL (P:=P) (t:=kt) oO r2 hk e3 h3;have UF:=fun b=>run_checkKey (P:=P) (w:=w) b 9998 oO hk r2;cases p with
    |none=>
     simp only[Ox] at h4;injection h4 with h4;subst h4
     obtain⟨w',a1,a2,a3⟩:=hs.MD (P:=P) h2 hg (e2.push r2 VY).1 (e2.push r2 VY).2;simp only[length_append,List.length_singleton] at a1;refine B5 (v:=.tuple #[zv,goInt es.length]) (w':=w') ?_ a2 (a3 _ _ (Rf VY (.i _ _)));simp only[execOp,ho,Lh,EM,Instr.mapEntry,Sem.run_bind,run_underlying hu,Result.andThen,GJ e1,UF,oP,hit,hzr,a1,Sem.run_pure]
    |some j=>
     simp only[Ox] at h4;split at h4
     .rename_i e hej;injection h4 with h4;subst h4
      obtain⟨kx,vx,b1,_,b3⟩:=Pn h3;simp only[Nat.sub_zero] at b1;rw[hej] at b1;injection b1 with b1;obtain⟨en,c1,c2,c3,c4⟩:=e2.get hej;rw[b1] at c3;have Er:=VG (P:=P) b3 r2 c3;have Ap:=(gB.1 hej).1
      have Qx:Hq dp F G w (Bv.modify j fun e=>{ e with key:=v2 }) (cY (av fr key) j es):=by
       rw[TN hej];refine e2.modify Ap fun e' aj=>⟨rfl,r2,?_⟩
       rw[c1] at aj;injection aj with aj;subst aj
       exact c4
      obtain⟨w',a1,a2,a3⟩:=hs.MD (P:=P) h2 hg Qx.1 Qx.2;rw[TN hej,length_set] at a1;rw[qz c1] at oP;refine B5 (v:=.tuple #[en.val,goInt en.born]) (w':=w') ?_ a2 (a3 _ _ (Rf c4 (by rw[c2];exact .i _ _)));simp only[execOp,ho,Lh,EM,Instr.mapEntry,Sem.run_bind,run_underlying hu,Result.andThen,GJ e1,UF,oP,c1,map_some,getD_some,Er,a1,Sem.run_pure]
     .cases h4
  .cases ht
 .cases hm
theorem ok_est{m j v:A}{id:Nat}{kk:IntKind}{n:Int}{es:List (D×D)}(hm:mR P dp o.op (.xE m j v)=true)(hs:BX dp F G w S)(hf:Fr dp F G w a fr)
  (h1:av fr m=.mp id) (h2:av fr j=.i kk n) (h3:AA S id=some (.map es)) (h4:0<=n) (h5:n<es.length):Lk P dp F G w S a o (.AY []) (sset S id (.map (Xi (av fr v) n.toNat es))):=by
 simp only[mR] at hm;split at hm
 .rename_i t x i u ho;simp only[and_eq_true] at hm;obtain⟨⟨hx,hi⟩,hu⟩:=hm;have r1:=hf.eval hx;have r2:=hf.eval hi;have r3:=hf.eval hu;rw[h1] at r1;rw[h2] at r2;generalize Lh:a.eval x=v1 at r1;generalize EM:a.eval i=v2 at r2;generalize hv3:a.eval u=v3 at r3;cases r1 with
  |mp _ g hg=>
   cases r2;obtain⟨Bv,e1,e2,e3⟩:=eH hs h3 hg;have Ap:n.toNat<es.length:=by omega
   have hej:=gA Ap;obtain⟨en,c1,c2,c3,c4⟩:=e2.get hej
   have Qx:Hq dp F G w (Bv.modify n.toNat fun e=>{ e with val:=v3 }) (Xi (av fr v) n.toNat es):=by
    rw[SQ hej];refine e2.modify Ap fun e' aj=>⟨rfl,?_,r3⟩
    rw[c1] at aj;injection aj with aj;subst aj
    exact c3
   obtain⟨w',a1,a2,a3⟩:=hs.MD (P:=P) h3 hg Qx.1 Qx.2;rw[SQ hej,length_set] at a1;have hlt':n.toNat<Bv.size:=by rw[e2.1];exact Ap
   have hidx:Bv.findIdx? (fun e=>(e.born:Int)==n)=some n.toNat:=by
    rw[Array.findIdx?_eq_some_iff_getElem]
    have hb:∀(q:Nat) (hq:q<Bv.size),Bv[q].born=q:=fun q hq=>
     (e2.2 q Bv[q] (es[q]'(by rw[<-e2.1];exact hq)) (getElem?_eq_getElem hq) (gA (by rw[<-e2.1];exact hq))).1
    refine⟨hlt',?_,fun q hq=>?_⟩
    .rw[hb];simp;omega
    .rw[hb];simp;omega
   refine Mg (w':=w') ?_ a2;simp only[execOp,ho,Lh,EM,hv3,Instr.entryStore,Sem.run_bind,Result.andThen,GJ e1,asInt,asIntOf,Sem.run_pure,Sem.run_map,hidx,a1]
 .cases hm
theorem Fr.qD{a:Act}{fr:List D}(h:Fr dp F G w a fr)(t:Nat){d:D}(hv:Rel dp F G w (a.tmps.getD t undef) d):Fr dp F G w a (Bc fr t d):=by
 refine⟨by simp[C6,h.len],fun u=>?_⟩;rw[CM];split
 .rename_i hu;rw[hu.1];exact hv
 .exact h.rel u
theorem SF{k:Nat}:∀{n:Nat} {cs:List D},n*k<=cs.length->(chunks k n cs).length=n/\(∀x∈chunks k n cs,x.length=k) /\
  ∀(j:Nat) (x:List D) (m:Nat) (d:D),(chunks k n cs)[j]? = some x->x[m]? = some d->j<n/\m<k/\cs[j*k+m]? = some d
 |0,cs,_=>⟨rfl,by simp[chunks],fun j x m d h=>by simp[chunks] at h⟩
 |n+1,cs,h=>by
  rw[add_mul,Nat.one_mul] at h;obtain⟨h1,h2,h3⟩:=SF (k:=k) (n:=n) (cs:=cs.drop k) (by simp;omega);have hl:(cs.take k).length=k:=by simp;omega
  refine⟨by simp[chunks,h1],fun x hx=>?_,fun j x m d hx hd=>?_⟩
  .simp only[chunks,mem_cons] at hx;rcases hx with rfl|hx
   .exact hl
   .exact h2 x hx
  .simp only[chunks] at hx;cases j with
   |zero=>
    simp at hx;subst hx;have hm:=(gB.1 hd).1;rw[hl] at hm;rw[getElem?_take_of_lt hm] at hd;exact⟨by omega,hm,by simpa using hd⟩
   |succ j=>
    obtain⟨a1,a2,a3⟩:=h3 j x m d (by simpa using hx) hd;refine⟨by omega,a2,?_⟩;rw[List.getElem?_drop] at a3;rw[add_mul,Nat.one_mul,show j*k+k+m=k+(j*k+m) by omega];exact a3
theorem fz_ar(hs:BX dp F G w S){v:Value}{k id o n:Nat}{cs:List D}(r1:Rel dp F G w v (.ar k id o n))(K9:AA S id=some (.box cs))(hle:o+n*k<=cs.length) :
  ∃F',BX dp F' G w (sset S id .gone)/\Ext F G w S F' G w (sset S id .gone)/\Rel dp F' G w v (.sl k false (chunks k n (cs.drop o)) .ro):=by
 cases r1 with
 |ar _ _ _ _ cap g hg hn=>
  obtain⟨vs,T,e1,⟨e2,_⟩,e3,e4,e5⟩:=hs.aV id _ g K9 hg;have hn:=hn.1;obtain⟨c1,c2,c3⟩:=SF (k:=k) (n:=n) (cs:=cs.drop o) (by simp;omega)
  have NC:=hs.write (F':=fun b p=>F b p\/(b=g.blk/\o<=p/\p<o+n*k)) (e':=.gone) K9 hg trivial (x:=.cells vs T (0,0)) ⟨e1,fun _ _=>rfl,rfl,rfl,⟨rfl,Ga.refl _⟩,rfl⟩ (fun _ _=>rfl) (fun _ _ h=>.inl h) (fun b p h=>by
   rcases h with h|⟨rfl,h1,h2⟩
   .exact .inl h
   .have:p<vs.size:=by omega
    exact .inr ⟨rfl,vs[p],by rw[Hh e1];exact getElem?_eq_getElem this⟩) trivial
  refine⟨_,NC.1,NC.2,?_⟩
  have:=Rel.sl (dp:=dp) (F:=fun b p=>F b p\/(b=g.blk/\o<=p/\p<o+n*k)) (G:=G) (w:=w) k (chunks k n (cs.drop o)) .ro g.blk o cap (fun j m=>vs.getD (o+j*k+m) undef) c2 (by omega) (fun j x m d hx hd=>by
    obtain⟨b1,b2,b3⟩:=c3 j x m d hx hd;have Ap:=lt_mul b1 b2;have U4:o+j*k+m<vs.size:=by omega
    have hg':vs.getD (o+j*k+m) undef=vs[o+j*k+m]:=by simp[getD,U4]
    rw[hg'];exact⟨.inr ⟨rfl,by omega,by omega⟩,by rw[Hh e1];exact getElem?_eq_getElem U4,e4 _ (by simp)⟩) (fun j x m d hx hd=>by
    obtain⟨b1,b2,b3⟩:=c3 j x m d hx hd;have Ap:=lt_mul b1 b2;have U4:o+j*k+m<vs.size:=by omega
    have hg':vs.getD (o+j*k+m) undef=vs[o+j*k+m]:=by simp[getD,U4]
    rw[hg'];rw[List.getElem?_drop,<-Nat.add_assoc] at b3
    exact(e5 _ _ d (getElem?_eq_getElem U4) b3).ext NC.2) trivial
  rw[c1] at this;exact this
theorem AA2(hs:BX dp F G w S){Ls:Nat}{v:Value}{d:D}(r1:Rel dp F G w v d){r:D×A1}(h:fzA Ls d S=some r) :
  ∃F',BX dp F' G w r.2/\Ext F G w S F' G w r.2/\Rel dp F' G w v r.1/\AA r.2 Ls=AA S Ls:=by
 unfold fzA at h;split at h
 .rename_i k id o n;split at h
  .cases h
  .rename_i CF;split at h
   .rename_i cs K9;split at h
    .rename_i hle;injection h with h;subst h
     obtain⟨F',h1,h2,h3⟩:=fz_ar hs r1 K9 hle;refine⟨F',h1,h2,h3,?_⟩;show AA (sset S id .gone) Ls=_;rw[AR,if_neg (fun e=>CF e.1.symm)]
    .cases h
   .cases h
 .injection h with h;subst h
  exact⟨F,hs,Ext.refl _ _ _ _,r1,rfl⟩
theorem Z4{Ls:Nat}{w:World}:∀{cs:List D} {F:GD} {S:A1} {vs:Array Value} {m:Nat} {r:List D×A1},BX dp F G w S->(∀(j:Nat) (v:Value) (d:D),vs[m+j]? = some v->cs[j]? = some d->Rel dp F G w v d)->m+cs.length<=vs.size->fzL Ls cs S=some r ->
  ∃F',BX dp F' G w r.2/\Ext F G w S F' G w r.2/\(∀(j:Nat) (v:Value) (d:D),vs[m+j]? = some v->r.1[j]? = some d->Rel dp F' G w v d)/\AA r.2 Ls=AA S Ls/\r.1.length=cs.length
 |[],F,S,vs,m,r,hs,hr,hle,h=>by simp only[fzL,Option.some.injEq] at h;subst h;exact⟨F,hs,Ext.refl _ _ _ _,fun j v d _ hd=>by simp at hd,rfl,rfl⟩
 |d::l,F,S,vs,m,r,hs,hr,hle,h=>by
  simp only[length_cons] at hle;simp only[fzL] at h;cases h1:fzA Ls d S with
  |none=>rw[h1] at h;cases h
  |some p=>
   obtain⟨d',S1⟩:=p;rw[h1] at h;simp only at h;cases h2:fzL Ls l S1 with
   |none=>rw[h2] at h;cases h
   |some q=>
    obtain⟨l',S2⟩:=q;rw[h2] at h;injection h with h;subst h;have hm:m<vs.size:=by omega
    obtain⟨F1,s1,x1,c1,g1⟩:=AA2 hs (hr 0 vs[m] d (getElem?_eq_getElem hm) rfl) h1;obtain⟨F2,s2,x2,c2,g2,l2⟩:=Z4 (vs:=vs) (m:=m+1) s1 (fun j v d hv hd=>(hr (j+1) v d (by rw[<-hv];congr 1;omega) (by simpa using hd)).ext x1) (by omega) h2;refine⟨F2,s2,x1.trans x2,fun j v d hv hd=>?_,g2.trans g1,by simp[l2]⟩;cases j with
    |zero=>
     simp at hd;subst hd;rw[add_zero,getElem?_eq_getElem hm] at hv;injection hv with hv;subst hv
     exact c1.ext x2
    |succ j=>exact c2 j v d (by rw[<-hv];congr 1;omega) (by simpa using hd)
theorem ok_fz{t:Nat}{r:D×A1}(hs:BX dp F G w S)(hf:Fr dp F G w a fr)(h:Lr (Ah fr t) S=some r) :
  ∃F',BX dp F' G w r.2/\Ext F G w S F' G w r.2/\Fr dp F' G w a (Bc fr t r.1):=by
 have r1:=hf.rel t;unfold Lr at h;split at h
 .rename_i k id o n heq;rw[heq] at r1;split at h
  .rename_i cs K9;split at h
   .rename_i hle;injection h with h;subst h
    obtain⟨F',h1,h2,h3⟩:=fz_ar hs r1 K9 hle;exact⟨F',h1,h2,(hf.ext h2).qD t h3⟩
   .cases h
  .cases h
 .rename_i k nl xs ow heq;injection h with h;subst h
  exact⟨F,hs,Ext.refl _ _ _ _,hf.qD t (by have:=r1.strip;rw[heq] at this;exact this)⟩
 .rename_i id o heq;rw[heq] at r1;split at h
  .rename_i cs K9;cases h2:fzL id cs S with
   |none=>rw[h2] at h;cases h
   |some q=>
    obtain⟨ah,S1⟩:=q;rw[h2] at h;injection h with h;subst h;have r2:=r1;generalize hv:a.tmps.getD t undef=v at r2;cases r2 with
    |bx _ _ g hg=>
     obtain⟨vs,T,e1,⟨e2,e2h⟩,e3,e4,e5⟩:=hs.aV id _ g K9 hg;obtain⟨F1,s1,x1,c1,g1,l1⟩:=Z4 (vs:=vs) (m:=0) hs (fun j v d hv hd=>e5 j v d (by simpa using hv) hd) (by omega) h2;have hsg1:AA S1 id=some (.box cs):=by rw[<-K9];exact g1
     obtain⟨vs1,T1,q1,⟨q2,q2h⟩,q3,q4,q5⟩:=s1.aV id _ g hsg1 hg;have xJ:vs1=vs:=by rw[e1] at q1;injection q1 with q1;injection q1 with q1;exact q1.symm
     subst xJ;have hlen:ah.length=cs.length:=l1
     have NC:=s1.write (e':=.box ah) hsg1 hg trivial (x:=.cells vs1 T1 (0,0)) ⟨q1,fun _ _=>rfl,rfl,rfl,⟨rfl,Ga.refl _⟩,rfl⟩ (fun _ _=>rfl) (fun _ _ h=>h) (fun _ _ h=>.inl h)
      ⟨vs1,T1,q1,⟨by rw[hlen];exact q2,q2h⟩,q3,q4,fun j v d hv hd=>c1 j v d (by simpa using hv) hd⟩
     have hx:=x1.trans NC.2;exact⟨F1,NC.1,hx,(hf.ext hx).qD t (by rw[hv];exact .bx id o g hg)⟩
  .cases h
 .cases h
end
end
section
open Go
variable [Ga]
section
variable {P:Program}{dp:Nat->Option Fn}{F F':GD}{G G':List Gh}{w w':World}{S S':A1}{a:Act}{fr:List D}{o:Oper}{d:D}
theorem bget(l:List UInt8)(i:Nat):(⟨l.toArray⟩:ByteArray)[i]! = l[i]!:=by
 have hs:(⟨l.toArray⟩:ByteArray).size=l.length:=by show l.toArray.size=_;simp
 by_cases h:i<l.length
 .rw[getElem!_pos (⟨l.toArray⟩:ByteArray) i (by rw[hs];exact h),getElem!_pos l i h];rfl
 .rw[getElem!_neg (⟨l.toArray⟩:ByteArray) i (by rw[hs];exact h),getElem!_neg l i h]
def cmpL:List UInt8->List UInt8->Int
 |[],[]=>0
 |[],_::_=>-1
 |_::_,[]=>1
 |x::a,y::b=>if x==y then cmpL a b else if x<y then -1 else 1
theorem V8:∀(a b:List UInt8),(match(List.range (min a.length b.length)).find? fun i=>a[i]! != b[i]! with
  |some i=>if a[i]! < b[i]! then(-1:Int) else 1
  |none=>if a.length<b.length then -1 else if a.length>b.length then 1 else 0)=cmpL a b
 |[],[]=>rfl
 |[],_::_=>by simp[cmpL]
 |_::_,[]=>by simp[cmpL]
 |x::a,y::b=>by
  have ih:=V8 a b;have e:min (x::a).length (y::b).length=min a.length b.length+1:=by simp only[length_cons];omega
  rw[e,List.range_succ_eq_map,List.find?_cons];simp only[cmpL];by_cases Vc:x=y
  .subst Vc;simp only[List.getElem!_cons_zero,bne_self_eq_false,beq_self_eq_true,if_true,List.find?_map];rw[<-ih]
   have e2:((fun i=>(x::a)[i]! != (x::b)[i]!) ∘ Nat.succ)=fun i=>a[i]! != b[i]!:=by funext i;simp
   rw[e2];cases(List.range (min a.length b.length)).find? fun i=>a[i]! != b[i]! with
   |none=>simp
   |some i=>simp
  .have h1:(x != y)=true:=by simpa using Vc
   have h2:(x==y)=false:=by simpa using Vc
   simp only[List.getElem!_cons_zero,h1,h2,false_eq_true,if_false]
theorem VX:∀(a b:List UInt8),cmpL a b=(if Op.bytesLess a b then -1 else if a==b then 0 else 1:Int)
 |[],[]=>rfl
 |[],_::_=>rfl
 |_::_,[]=>by simp[cmpL,Op.bytesLess]
 |x::a,y::b=>by
  simp only[cmpL,Op.bytesLess,VX a b];by_cases Vc:x=y
  .subst Vc;have:¬(x<x):=UInt8.lt_irrefl x;simp[this]
  .have h2:(x==y)=false:=by simpa using Vc
   by_cases Ap:x<y
   .simp[h2,Ap]
   .simp[h2,Ap,Vc]
theorem sQ(a b:List UInt8):Extern.BytealgCompare.cmp ⟨a.toArray⟩ ⟨b.toArray⟩=(if Op.bytesLess a b then -1 else if a==b then 0 else 1:Int):=by
 rw[<-VX,<-V8];have ha:(⟨a.toArray⟩:ByteArray).size=a.length:=by show a.toArray.size=_;simp
 have hb:(⟨b.toArray⟩:ByteArray).size=b.length:=by show b.toArray.size=_;simp
 simp only[Extern.BytealgCompare.cmp,ha,hb,bget];rfl
theorem ok_cmps{x y:A}{l m:List UInt8}(hm:mR P dp o.op (.EN x y)=true)(hf:Fr dp F G w a fr)(h1:av fr x=.s l)(h2:av fr y=.s m) :
  Qe P dp F G w a o (.i .i64 (if Op.bytesLess l m then -1 else if l==m then 0 else 1)):=by
 simp only[mR] at hm;split at hm
 .rename_i c ho;simp only[and_eq_true] at hm;obtain⟨hc,BE⟩:=hm;split at hc
  .rename_i f MN;split at hc
   .rename_i fn hfn;simp only[and_eq_true,beq_iff_eq] at hc;obtain⟨⟨hname,Vd⟩,hnext'⟩:=hc;obtain⟨e1,e2,e3⟩:=hf.PA BE;have hl:c.args.toList.length=2:=by rw[e1];rfl
    match hx:c.args.toList,hl with
    |[x1,x2],_=>
     rw[hx] at BE;simp only[UO,and_eq_true] at BE;have r1:=hf.eval BE.1;have r2:=hf.eval BE.2.1;rw[h1] at r1;rw[h2] at r2;generalize Lh:a.eval x1=v1 at r1;generalize EM:a.eval x2=v2 at r2;cases r1;cases r2
     have OB:c.args.map a.eval = #[.string ⟨l.toArray⟩,.string ⟨m.toArray⟩]:=by apply ext';simp[hx,Lh,EM]
     have l9:Extern.find fn=some Extern.BytealgCompare.compare:=by unfold Extern.find;rw[hname];rfl
     have lC:Extern.findNext fn=none:=by simpa using hnext'
     refine⟨goInt (Extern.BytealgCompare.cmp ⟨l.toArray⟩ ⟨m.toArray⟩),?_,by rw[sQ];exact .i _ _⟩;have Ei:=run_callFunc_extern (P:=P) hfn (by rw[hname];rfl) Vd lC l9 #[.string ⟨l.toArray⟩,.string ⟨m.toArray⟩] w;have hcmp:(Extern.BytealgCompare.compare #[.string ⟨l.toArray⟩,.string ⟨m.toArray⟩]).run P w=.ok (goInt (Extern.BytealgCompare.cmp ⟨l.toArray⟩ ⟨m.toArray⟩)) w:=rfl;rw[hcmp] at Ei;simp only[execOp,ho,resolve,MN,Act.eval,Deferred.ofValue,Sem.run_bind,Sem.run_pure,Result.andThen,invoke,OB,Array.append_empty,empty_append,Ei]
   .cases hc
  .cases hc
 .cases hm
theorem SE{k k2:Nat}{nl:Bool}{ys:List (List D)}{ow:JB}{v:Value}(h:Rel dp F G w v (.sl k2 nl ys ow))(hk:k2=k\/ys=[])(OK:0<k) :
  ∃(news:List Value) (base:Option Addr) (cap:Nat),v=.slice base ys.length cap/\news.length=ys.length*k/\(∀u∈news,u.oneCell'=true)/\H2 dp F G w k news.toArray ys /\
   ∀w2:World,(∀b o,F b o->w2.cell? ⟨b,o,none⟩=w.cell? ⟨b,o,none⟩)->(Builtin.firstCells k ys.length v).run P w2=.ok news.toArray w2:=by
 cases h with
 |nil=>exact⟨[],none,0,rfl,by simp,by simp,⟨by simp,fun j x m d h=>by simp at h⟩,fun w2 _=>by simp[Builtin.firstCells]⟩
 |emp _ ad cap=>exact⟨[],some ad,cap,rfl,by simp,by simp,⟨by simp,fun j x m d h=>by simp at h⟩,fun w2 _=>run_firstCells_some (P:=P) w2 k 0 ad 0 cap [] (by simp) (by simp)⟩
 |sl _ _ _ blk off cap c YN Eh h1 h2 ho=>
  by_cases hys:ys=[]
  .subst hys;refine⟨[],some ⟨blk,off,none⟩,cap,rfl,by simp,by simp,⟨by simp,fun j x m d h=>by simp at h⟩,fun w2 _=>?_⟩;exact run_firstCells_some (P:=P) w2 k 0 ⟨blk,off,none⟩ 0 cap [] (by simp) (by simp)
  .have hk2:k2=k:=hk.resolve_right hys;subst hk2
   have UY:∀q,q<ys.length*k2->q/k2<ys.length/\q%k2<k2/\q/k2*k2+q%k2=q:=fun q hq=>
    ⟨(Nat.div_lt_iff_lt_mul OK).2 hq,mod_lt _ OK,by rw[Nat.mul_comm];exact Nat.div_add_mod q k2⟩
   have Cv:∀q,q<ys.length*k2->F blk (off+q)/\w.cell? ⟨blk,off+q,none⟩=some (c (q/k2) (q%k2))/\(c (q/k2) (q%k2)).oneCell'=true:=by intro q hq;obtain⟨b1,b2,b3⟩:=UY q hq;have hl:=YN ys[q/k2] (by simp);have:=h1 (q/k2) ys[q/k2] (q%k2) (ys[q/k2][q%k2]'(by omega)) (gA b1) (gA (by omega));rw[Nat.add_assoc,b3] at this;exact this
   refine⟨(List.range (ys.length*k2)).map fun q=>c (q/k2) (q%k2),some ⟨blk,off,none⟩,cap,rfl,by simp,fun u hu=>?_,⟨YN,fun j x m d hx hd=>?_⟩,fun w2 hw2=>?_⟩
   .obtain⟨q,hq,rfl⟩:=List.mem_map.1 hu;exact(Cv q (List.mem_range.1 hq)).2.2
   .have hj:=(gB.1 hx).1
    have hm:m<k2:=by have:=(gB.1 hd).1;rw[YN x (gC hx)] at this;exact this
    have Ap:=lt_mul hj hm
    have hdiv:(j*k2+m)/k2=j:=by rw[add_comm,Nat.add_mul_div_right _ _ OK,Nat.div_eq_of_lt hm,zero_add]
    refine⟨c j m,?_,(h1 j x m d hx hd).2.2,h2 j x m d hx hd⟩;simp[Ap,hdiv,gJ hm]
   .refine run_firstCells_some (P:=P) w2 k2 ys.length ⟨blk,off,none⟩ ys.length cap _ (by simp) fun j u hu=>?_;have hj:=(gB.1 hu).1;simp only[List.length_map,List.length_range] at hj;obtain⟨b1,b2,b3⟩:=Cv j hj;simp[hj] at hu;rw[G7,hw2 _ _ b1,b2,hu]
theorem PZ{t u ty e e':TypeId}(ht:P.underlying t=some (.slice e))(hu:P.underlying u=some (.slice e'))(x y:Value) :
  (Builtin.append_ #[t,u] ty #[x,y]).run P w=(Builtin.append_ #[t,t] ty #[x,y]).run P w:=by
 cases x<;>simp[Builtin.append_,run_underlying ht,run_underlying hu]
theorem LZ{t ty e:TypeId}{i:TypeInfo}{b:Nat}{off n cap m c2:Nat}{b2:Option Addr}{news:List Value}(ht:P.underlying t=some (.slice e))(hi:P.info? e=some i)
  (MP:n+m<=cap) (hn:(Builtin.firstCells i.size m (.slice b2 m c2)).run P w=.ok news.toArray w) (Er:(storeCells ⟨b,off+n*i.size,none⟩ news).run P w=.ok () w') :
  (Builtin.append_ #[t,t] ty #[.slice (some ⟨b,off,none⟩) n cap,.slice b2 m c2]).run P w=.ok (.slice (some ⟨b,off,none⟩) (n+m) cap) w':=by
 simp[Builtin.append_,run_underlying ht,sizeOf,typeInfo,hi,Builtin.lenOf,MP,hn,G7,Er]
theorem XV{t ty e:TypeId}{i:TypeInfo}{n m cap c2:Nat}{b2:Option Addr}{news:List Value}(ht:P.underlying t=some (.slice e))(hi:P.info? e=some i)
  (MP:n+m<=cap) (hn:(Builtin.firstCells i.size m (.slice b2 m c2)).run P w=.ok news.toArray w) :
  (Builtin.append_ #[t,t] ty #[.slice none n cap,.slice b2 m c2]).run P w=.ok (.slice none (n+m) cap) w:=by
 simp[Builtin.append_,run_underlying ht,sizeOf,typeInfo,hi,Builtin.lenOf,MP,hn]
theorem OZ{t ty e:TypeId}{i:TypeInfo}{z:Value}{n m cap c2:Nat}{b1 b2:Option Addr}{Pz news:List Value}(ht:P.underlying t=some (.slice e))(hi:P.info? e=some i)(hz:i.zero=some z)
  (MP:cap<n+m) (hb:i.bytes<=65536) (hsm:n+m<=AP) (ho:(Builtin.firstCells i.size n (.slice b1 n cap)).run P w.drew=.ok Pz.toArray w.drew) (hn:(Builtin.firstCells i.size m (.slice b2 m c2)).run P w.drew=.ok news.toArray w.drew) :
  (Builtin.append_ #[t,t] ty #[.slice b1 n cap,.slice b2 m c2]).run P w =
   .ok (.slice (some ⟨w.heap.size,0,none⟩) (n+m) (grownCap w (n+m) cap e)) (w.drew.alloc (.cells (Pz.toArray++news.toArray++Builtin.zeroCells z.cells (grownCap w (n+m) cap e-(n+m))) e)):=by
 have hn1:¬(n+m<=cap):=by omega
 simp only[AP] at hsm;have h63':¬(9223372036854775807<((n:Int)+(m:Int))):=by omega
 have h48':¬(281474976710656<Builtin.nextslicecap (n+m) cap*i.bytes):=by have h1:=nextslicecap_le (need:=n+m) (old:=cap) (by omega);have h2:Builtin.nextslicecap (n+m) cap*i.bytes<=2097152*65536:=Nat.mul_le_mul (by omega) hb;omega
 simp[Builtin.append_,run_underlying ht,sizeOf,typeInfo,zeroValue,hi,hz,Builtin.lenOf,hn1,h63',h48',Question.forced,ho,hn,newRow,grownCap];congr 2;apply ext';simp[List.append_assoc]
theorem HL(xs ys zs:Array Value)(q:Nat):(xs++ys++zs)[q]? = if q<xs.size then xs[q]? else if q<xs.size+ys.size then ys[q-xs.size]? else zs[q-xs.size-ys.size]?:=by
 rw[Array.getElem?_append];simp only[size_append];by_cases h1:q<xs.size
 .rw[if_pos (by omega),if_pos h1,Array.getElem?_append_left h1]
 .rw[if_neg h1];by_cases h2:q<xs.size+ys.size
  .rw[if_pos h2,if_pos h2,Array.getElem?_append_right (by omega)]
  .rw[if_neg h2,if_neg h2];congr 1;omega
theorem H2.append{k:Nat}{Pz news rest:Array Value}{xs ys:List (List D)}(h1:H2 dp F G w k Pz xs)(h2:H2 dp F G w k news ys)(l1:Pz.size=xs.length*k)(l2:news.size=ys.length*k) :
  H2 dp F G w k (Pz++news++rest) (xs++ys):=by
 refine⟨fun x hx=>?_,fun j x m d hx hd=>?_⟩
 .rcases List.mem_append.1 hx with hx|hx
  .exact h1.1 x hx
  .exact h2.1 x hx
 .by_cases hj:j<xs.length
  .rw[gE hj] at hx;obtain⟨v,a1,a2,a3⟩:=h1.2 j x m d hx hd
   have hm:m<k:=by have:=(gB.1 hd).1;rw[h1.1 x (gC hx)] at this;exact this
   have Ap:=lt_mul hj hm;refine⟨v,?_,a2,a3⟩;rw[HL,if_pos (by omega)];exact a1
  .rw[gF (by omega)] at hx;obtain⟨v,a1,a2,a3⟩:=h2.2 _ x m d hx hd;have hj2:=(gB.1 hx).1
   have hm:m<k:=by have:=(gB.1 hd).1;rw[h2.1 x (gC hx)] at this;exact this
   have Ap:=lt_mul hj2 hm;have e:j*k=xs.length*k+(j-xs.length)*k:=by rw[<-add_mul];congr 1;omega
   refine⟨v,?_,a2,a3⟩;rw[HL,if_neg (by omega),if_pos (by omega)];rw[show j*k+m-Pz.size=(j-xs.length)*k+m by omega];exact a1
theorem Vn{t:Nat}(id:Nat)(e:B9)(h:AA (sset S t (.tok false)) id=some e):AA S id=some e\/¬holds e:=by
 rw[AR] at h;split at h
 .injection h with h;subst h
  exact .inr (fun h=>h)
 .exact .inl h
theorem BX.extend(hs:BX dp F G w S){t:Nat}{g:Gh}{x:Obj}{lo:Nat}(ht:AA S t=some (.tok true))(hg:AA G t=some g)(hw:V9 w g.blk x w')
  (Cv:∀o,F g.blk o->w'.cell? ⟨g.blk,o,none⟩=w.cell? ⟨g.blk,o,none⟩) (hlo:g.lo<=lo) (hex:∀o,g.lo<=o->o<lo->∃v,w'.cell? ⟨g.blk,o,none⟩=some v)
  (hx:∃vs T,x=.cells vs T (0,0)/\g.hi<=vs.size) :
  BX dp (fun b o=>F b o\/(b=g.blk/\g.lo<=o/\o<lo)) (⟨g.blk,lo,g.hi⟩::G) w' (.tok true::sset S t (.tok false)) /\
  Ext F G w S (fun b o=>F b o\/(b=g.blk/\g.lo<=o/\o<lo)) (⟨g.blk,lo,g.hi⟩::G) w' (.tok true::sset S t (.tok false)):=by
 obtain⟨_,_,_,_,xL⟩:=hs.aV t _ g ht hg;have hlen:(sset S t (.tok false)).length=S.length:=E6 _ _ _
 refine hs.step (fun b=>b=g.blk) (by simp[hlen,hs.len]) (fun id g' h=>by rw[BM _ _ _ (AJ h)];exact h) (fun _ _ h=>.inl h)
  (fun b o h=>?_) (fun b o h=>?_) (fun b _ hb=>hw.other b hb) (fun b hb=>.inl ⟨t,_,g,ht,trivial,hg,hb.symm⟩) ?_ (by rw[hw.size];exact le_refl _) hw.os hw.tape hw.output
 .by_cases hb:b=g.blk
  .subst hb;exact Cv o h
  .exact World.cell?_of_block (a:=⟨b,o,none⟩) (hw.other b hb)
 .rcases h with h|⟨rfl,h1,h2⟩
  .exact .inl h
  .exact .inr ⟨rfl,hex o h1 h2⟩
 .have hold:∀{j e' g'},j≠S.length->AA (.tok true::sset S t (.tok false)) j=some e'->AA (⟨g.blk,lo,g.hi⟩::G) j=some g'->holds e'->AA S j=some e'/\AA G j=some g'/\g'.blk≠g.blk:=by
   intro j e' g' hj h1 h2 hh;simp only[AA] at h1 h2;rw[hlen,if_neg hj] at h1;rw[hs.len,if_neg hj] at h2;rw[AR] at h1;split at h1
   .injection h1 with h1;subst h1;exact hh.elim
   .rename_i hjt;refine⟨h1,h2,hs.sep j t e' _ g' g ?_ h1 ht hh trivial h2 hg⟩;intro heq;exact hjt ⟨heq,heq▸AJ h1⟩
  intro id e' g' h1 h2;by_cases hid:id=S.length
  .have e1:e'=.tok true:=by rw[hid,<-hlen,Aj] at h1;injection h1 with h1;exact h1.symm
   have e2:g'=⟨g.blk,lo,g.hi⟩:=by rw[hid,<-hs.len,Aj] at h2;injection h2 with h2;exact h2.symm
   refine .inr (.inr ?_);rw[e1,e2];obtain⟨vs,T,rfl,hhi⟩:=hx;refine⟨rfl,⟨vs,T,hw.at_,hhi,fun o ho h=>?_⟩,fun j e'' g'' hj h3 h4 hh=>(hold (by omega) h3 h4 hh).2.2⟩;simp only at ho;rcases h with h|⟨_,_,h⟩
   .exact xL o (by omega) h
   .omega
  .by_cases hh:holds e'
   .obtain⟨a1,a2,a3⟩:=hold hid h1 h2 hh;exact .inr (.inl ⟨a1,a2,a3⟩)
   .exact .inl hh
theorem ct{k:Nat}{nl:Bool}{xs:List (List D)}{ow:JB}{v:Value}(h:Rel dp F G w v (.sl k nl xs ow))(OC:nl=true\/ow ≠ .ro) :
  (nl=true/\xs=[]/\v=.slice none 0 0)\/(nl=false/\∃(blk off cap:Nat) (c:Nat->Nat->Value),v=.slice (some ⟨blk,off,none⟩) xs.length cap/\(∀x∈xs,x.length=k)/\xs.length<=cap /\
   (∀(j:Nat) (x:List D) (m:Nat) (d:D),xs[j]? = some x->x[m]? = some d->F blk (off+j*k+m)/\w.cell? ⟨blk,off+j*k+m,none⟩=some (c j m)/\(c j m).oneCell'=true) /\
   (∀(j:Nat) (x:List D) (m:Nat) (d:D),xs[j]? = some x->x[m]? = some d->Rel dp F G w (c j m) d)/\Ts G blk (off+xs.length*k) (off+cap*k) cap ow):=by
 cases h with
 |nil=>exact .inl ⟨rfl,rfl,rfl⟩
 |emp _ ad cap=>simp at OC
 |sl _ _ _ blk off cap c YN Eh h1 h2 ho=>exact .inr ⟨rfl,blk,off,cap,c,rfl,YN,Eh,h1,h2,ho⟩
theorem bm{k id n:Nat}{ys:List (List D)}{r:D×A1}(h:pK k id n ys S=some r) :
  ∃cs,AA S id=some (.box cs)/\n*k<=cs.length/\r=(.ar k S.length 0 (n+ys.length),.box (cs.take (n*k)++ys.flatten)::sset S id .gone):=by
 unfold pK at h;split at h
 .rename_i cs U3;split at h
  .rename_i hle;injection h with h
   exact⟨cs,U3,hle,h.symm⟩
  .cases h
 .cases h
theorem AAS{k:Nat}{arr:Bool}{k1 id o n:Nat}{y:D}{r:D×A1}(h:Be k arr (.ar k1 id o n) y S=some r) :
  ∃k2 nl2 ys ow2,k1=k/\o=0/\y=.sl k2 nl2 ys ow2/\(k2=k\/ys=[])/\n+ys.length<=AP/\pK k id n ys S=some r:=by
 unfold Be at h;split at h
 .rename_i ow2 e1;injection e1 with a1 a2 a3 a4
  subst a1 a2 a3 a4;split at h
  .rename_i hc;exact⟨_,_,_,_,hc.1,hc.2.2.2,rfl,hc.2.1,hc.2.2.1,h⟩
  .cases h
 .rename_i e1;cases e1
 .cases h
theorem ly{t:Nat}(id:Nat)(e:B9)(h:AA (sset S t .gone) id=some e):AA S id=some e\/¬holds e:=by
 rw[AR] at h;split at h
 .injection h with h;subst h
  exact .inr (fun h=>h)
 .exact .inl h
theorem BX.reown(hs:BX dp F G w S){t:Nat}{g:Gh}{x:Obj}{cs zs:List D}(ht:AA S t=some (.box cs))(hg:AA G t=some g)(hw:V9 w g.blk x w')
  (he:KV dp F (⟨g.blk,0,g.hi⟩::G) w' ⟨g.blk,0,g.hi⟩ (.box zs)) :
  BX dp F (⟨g.blk,0,g.hi⟩::G) w' (.box zs::sset S t .gone)/\Ext F G w S F (⟨g.blk,0,g.hi⟩::G) w' (.box zs::sset S t .gone):=by
 obtain⟨_,_,_,_,xL,_⟩:=hs.aV t _ g ht hg;have hlen:(sset S t .gone).length=S.length:=E6 _ _ _
 refine hs.step (fun b=>b=g.blk) (by simp[hlen,hs.len]) (fun id g' h=>by rw[BM _ _ _ (AJ h)];exact h) (fun _ _ h=>h)
  (fun b o h=>?_) (fun b o h=>.inl h) (fun b _ hb=>hw.other b hb) (fun b hb=>.inl ⟨t,_,g,ht,trivial,hg,hb.symm⟩) ?_ (by rw[hw.size];exact le_refl _) hw.os hw.tape hw.output
 .by_cases hb:b=g.blk
  .subst hb;exact(xL o h).elim
  .exact World.cell?_of_block (a:=⟨b,o,none⟩) (hw.other b hb)
 .have hold:∀{j e' g'},j≠S.length->AA (.box zs::sset S t .gone) j=some e'->AA (⟨g.blk,0,g.hi⟩::G) j=some g'->holds e'->AA S j=some e'/\AA G j=some g'/\g'.blk≠g.blk:=by
   intro j e' g' hj h1 h2 hh;simp only[AA] at h1 h2;rw[hlen,if_neg hj] at h1;rw[hs.len,if_neg hj] at h2;rw[AR] at h1;split at h1
   .injection h1 with h1;subst h1;exact hh.elim
   .rename_i hjt;refine⟨h1,h2,hs.sep j t e' _ g' g ?_ h1 ht hh trivial h2 hg⟩;intro heq;exact hjt ⟨heq,heq▸AJ h1⟩
  intro id e' g' h1 h2;by_cases hid:id=S.length
  .have e1:e'=.box zs:=by rw[hid,<-hlen,Aj] at h1;injection h1 with h1;exact h1.symm
   have e2:g'=⟨g.blk,0,g.hi⟩:=by rw[hid,<-hs.len,Aj] at h2;injection h2 with h2;exact h2.symm
   refine .inr (.inr ?_);rw[e1,e2];exact⟨rfl,he,fun j e'' g'' hj h3 h4 hh=>(hold (by omega) h3 h4 hh).2.2⟩
  .by_cases hh:holds e'
   .obtain⟨a1,a2,a3⟩:=hold hid h1 h2 hh;exact .inr (.inl ⟨a1,a2,a3⟩)
   .exact .inl hh
theorem ee{k:Nat}{arr:Bool}{x y:D}{r:D×A1}(hx:∀a b c d,x ≠ .ar a b c d)(h:Be k arr x y S=some r) :
  ∃nl xs ow k2 nl2 ys ow2,x=.sl k nl xs ow/\y=.sl k2 nl2 ys ow2/\(k2=k\/ys=[])/\xs.length+ys.length<=AP /\
   (
    (∃t,ow=.tok t/\AA S t=some (.tok true)/\arr=false/\nl=false/\r=(.sl k false (xs++ys) (.tok S.length),.tok true::sset S t (.tok false))) \/
    ((
     ow=.G4\/nl=true)/\((ys=[]/\r=(.sl k nl xs ow,S))\/(0<ys.length/\arr=true/\r=(.ar k S.length 0 ys.length,.box ys.flatten::S)) \/
     (0<ys.length/\arr=false/\r=(.sl k false ys (.tok S.length),.tok true::S))))):=by
 unfold Be at h;split at h
 .exact absurd rfl (hx _ _ _ _)
 .rename_i k1 nl xs ow k2 nl2 ys ow2;split at h
  .rename_i Hz;obtain⟨rfl,hk2,hlen⟩:=Hz;refine⟨nl,xs,ow,k2,nl2,ys,ow2,rfl,rfl,hk2,hlen,?_⟩
   have rest:∀c:Bool,(c=true->ow=.G4\/nl=true)->(if c=true then(if ys.isEmpty then some (D.sl k1 nl xs ow,S)
     else if arr then some (.ar k1 S.length 0 ys.length,.box ys.flatten::S)
     else some (.sl k1 false ys (.tok S.length),.tok true::S)) else none)=some r ->
     ((ow=.G4\/nl=true)/\((ys=[]/\r=(.sl k1 nl xs ow,S))\/(0<ys.length/\arr=true/\r=(.ar k1 S.length 0 ys.length,.box ys.flatten::S)) \/
     (0<ys.length/\arr=false/\r=(.sl k1 false ys (.tok S.length),.tok true::S)))):=by
    intro c hc h;split at h
    .rename_i hct;refine⟨hc hct,?_⟩;split at h
     .rename_i YE;injection h with h
      exact .inl ⟨by simpa using YE,h.symm⟩
     .rename_i CF
      have Q0:0<ys.length:=by
       cases ys with
       |nil=>simp at CF
       |cons _ _=>simp
      split at h<;>rename_i ha
      .injection h with h
       exact .inr (.inl ⟨Q0,ha,h.symm⟩)
      .injection h with h
       exact .inr (.inr ⟨Q0,by simpa using ha,h.symm⟩)
    .cases h
   cases ow with
   |ro=>exact .inr (rest nl (fun h=>.inr h) h)
   |G4=>exact .inr (rest true (fun h=>.inl rfl) h)
   |tok t=>
    simp only at h;split at h
    .rename_i htok;split at h
     .cases h
     .rename_i hn;simp only[or_eq_true,not_or,Bool.not_eq_true] at hn;injection h with h
      exact .inl ⟨t,rfl,htok,hn.1,hn.2,h.symm⟩
    .cases h
  .cases h
 .cases h
theorem ok_app{k:Nat}{arr:Bool}{x y:A}{r:D×A1}(hm:mR P dp o.op (.app k arr x y)=true)(hs:BX dp F G w S)(hf:Fr dp F G w a fr)(he:Be k arr (av fr x) (av fr y) S=some r) :
  Lk P dp F G w S a o r.1 r.2:=by
 simp only[mR] at hm;split at hm
 .rename_i c ho;simp only[and_eq_true] at hm;obtain⟨⟨hb,ht⟩,BE⟩:=hm;split at hb
  .rename_i MN;split at ht
   .rename_i t u hts;simp only[and_eq_true] at ht;obtain⟨ht,hu⟩:=ht;split at ht
    .rename_i e Rn;simp only[and_eq_true,decide_eq_true_eq] at ht;obtain⟨⟨Cw,OK⟩,lD⟩:=ht;split at lD
     .rename_i i hi;simp only[and_eq_true,decide_eq_true_eq] at lD;obtain⟨YF,xM⟩:=lD;split at xM
      .rename_i z hz;simp only[beq_iff_eq,and_eq_true,all_eq_true] at xM;obtain⟨xM,hzone⟩:=xM
       have Qw:i.size=k:=by unfold jw at Cw;rw[hi] at Cw;simpa using Cw
       unfold mU at hu;split at hu
       .rename_i du hdu;dsimp only at hu;split at hu
        .rename_i e'
         have YM:c.argTypes = #[t,u]:=by apply ext';rw[hts]
         obtain⟨l1,_,_⟩:=hf.PA BE;have hl:c.args.toList.length=2:=by rw[l1];rfl
         match hx:c.args.toList,hl with
         |[x1,x2],_=>
          rw[hx] at BE;simp only[UO,and_eq_true] at BE;have r1:=hf.eval BE.1;have r2:=hf.eval BE.2.1
          have OB:c.args.map a.eval = #[a.eval x1,a.eval x2]:=by apply ext';simp[hx]
          have run:∀v w',(Builtin.append_ #[t,t] o.type #[a.eval x1,a.eval x2]).run P w=.ok v w'->(execOp a.eval o).run P w=.ok (.value v) w':=by intro v w' h;simp only[execOp,ho,resolve,MN,Sem.run_bind,Sem.run_pure,Result.andThen,invoke,builtin,YM,OB,PZ Rn hdu,h]
          generalize a.eval x1=v1 at r1 run;generalize a.eval x2=v2 at r2 run;generalize av fr x=xd at r1 he;generalize av fr y=yd at r2 he;by_cases hxar:∃k1 id off n,xd=.ar k1 id off n
          .obtain⟨k1,id,off,n,rfl⟩:=hxar;obtain⟨k2,nl2,ys,ow2,rfl,rfl,rfl,hk2,hlen,he⟩:=AAS he;obtain⟨cs,K9,hnk,rfl⟩:=bm he;obtain⟨news,b2,c2,rfl,n1,n2,n3,n4⟩:=SE (P:=P) r2 hk2 OK;cases r1 with
           |ar _ _ _ _ cap g hg hnc=>
            obtain⟨hncap,hchi⟩:=hnc;rw[zero_add] at hchi;obtain⟨vs,T,e1,⟨e2,e2h⟩,e3,e4,e5⟩:=hs.aV id _ g K9 hg;have Gu:=Ki n3 OK (by simpa using n1);have KR:=Gu.1;simp only[size_toArray] at KR;have hn:=n4 w (fun _ _ _=>rfl);have UZ:=n4 w.drew (fun _ _ _=>rfl);have htk:(cs.take (n*k1)).length=n*k1:=by rw[length_take];omega
            by_cases MP:n+ys.length<=cap
            .have hle:(n+ys.length)*k1<=cap*k1:=Nat.mul_le_mul_right k1 MP;rw[add_mul] at hle;have U6:n*k1+news.length<=vs.size:=by omega
             have Er:=run_storeCells_at P g.blk (0+n*k1) T news 0 vs w e1 (by omega) n2;simp only[add_zero,zero_add] at Er
             have NC:=hs.reown (zs:=cs.take (n*k1)++ys.flatten) K9 hg (LJ (cs:=(vs.toList.take (n*k1)++news++vs.toList.drop (n*k1+news.length)).toArray) e1)
              ⟨_,T,setRow_heap w g.blk vs _ T _ e1,⟨by rw[Ly _ _ _ U6,length_append,htk];omega,by rw[Ly _ _ _ U6];exact e2h⟩,e3,XG e4 n2,fun m v d hv hd=>by
               rw[Rk _ _ _ _ U6] at hv
               have lE:∀{v:Value} {d:D},Rel dp F G w v d->Rel dp F (⟨g.blk,0,g.hi⟩::G) (w.setRow g.blk (vs.toList.take (n*k1)++news++vs.toList.drop (n*k1+news.length)).toArray) v d:=fun h=>
                h.mono (fun _ _ h=>h) (fun id g h=>by rw[BM _ _ _ (AJ h)];exact h) fun b o h=>World.cell?_of_block (a:=⟨b,o,none⟩) (setRow_other w g.blk b _ fun heq=>e3 o (heq▸h))
               by_cases hm:m<n*k1
               .rw[gE (by omega),getElem?_take_of_lt hm] at hd;rw[if_neg (by omega)] at hv;exact lE (e5 m v d hv hd)
               .rw[gF (by omega),htk] at hd;have yJ:=(gB.1 hd).1;rw[if_pos (by omega)] at hv
                exact lE (Gu.2 _ v d (by simpa using hv) hd)⟩
             refine B5 (run _ _ (LZ Rn hi MP (by rw[Qw];exact hn) (by rw[Qw,zero_add];exact Er))) NC ?_;exact .ar k1 S.length 0 _ cap ⟨g.blk,0,g.hi⟩ (by rw[<-hs.len,Aj]) ⟨MP,by simpa using hchi⟩
            .have hnv:n*k1<=vs.size:=by omega
             have hod:(Builtin.firstCells i.size n (.slice (some ⟨g.blk,0,none⟩) n cap)).run P w.drew=.ok (vs.toList.take (n*k1)).toArray w.drew:=by rw[Qw];refine run_firstCells_some (P:=P) w.drew k1 n ⟨g.blk,0,none⟩ n cap _ (by simp;omega) fun j u hu=>?_;have hj:=(gB.1 hu).1;simp only[length_take] at hj;rw[getElem?_take_of_lt (by omega)] at hu;rw[G7,zero_add];show w.cell? ⟨g.blk,j,none⟩=some u;rw[Hh e1];simpa using hu
             have hgr:=run _ _ (OZ Rn hi hz (show cap<n+ys.length by omega) YF hlen hod (by rw[Qw];exact UZ));have oS:=grownCap_ge w (n+ys.length) cap e;have ht1:(vs.toList.take (n*k1)).length=n*k1:=by rw[length_take];simp;omega
             have MO:((vs.toList.take (n*k1)).toArray++news.toArray++Builtin.zeroCells z.cells (grownCap w (n+ys.length) cap e-(n+ys.length))).size=grownCap w (n+ys.length) cap e*k1:=by simp only[size_append,size_toArray,ht1,n1,size_zeroCells,xM];rw[<-add_mul,<-add_mul];congr 1;omega
             have hle:EP dp F G w ((vs.toList.take (n*k1)).toArray++news.toArray++Builtin.zeroCells z.cells (grownCap w (n+ys.length) cap e-(n+ys.length))) (cs.take (n*k1)++ys.flatten):=by
              refine⟨by simp only[size_append,size_toArray,length_append,htk,ht1];omega,fun m v d hv hd=>?_⟩;rw[HL] at hv;simp only[size_toArray,ht1] at hv;by_cases hm:m<n*k1
              .rw[gE (by omega),getElem?_take_of_lt hm] at hd;rw[if_pos hm,List.getElem?_toArray,getElem?_take_of_lt hm] at hv;exact e5 m v d (by simpa using hv) hd
              .rw[gF (by omega),htk] at hd;have yJ:=(gB.1 hd).1;rw[if_neg hm,if_pos (by omega)] at hv;exact Gu.2 _ v d (by simpa using hv) hd
             have hbox:=hs.MI (grownCap w (n+ys.length) cap e*k1) (HK w _) hle (fun u hu=>by
               simp only[Array.toList_append,mem_append] at hu;rcases hu with(hu|hu)|hu
               .exact e4 u (List.mem_of_mem_take (by simpa using hu))
               .exact n2 u hu
               .obtain⟨q,hq,rfl⟩:=List.getElem_of_mem hu;simp only[Builtin.zeroCells] at hq ⊢;have fU:q<(grownCap w (n+ys.length) cap e-(n+ys.length))*z.cells.size:=by simpa using hq
                have Qx:q%z.cells.size<z.cells.size:=mod_lt _ (by omega);simp[Qx]
                exact hzone _ (by simp)) (T:=e) (S0:=sset S id .gone) (E6 _ _ _) ly (by rw[MO];exact le_refl _)
             refine B5 hgr hbox ?_
             have:=Rel.ar (dp:=dp) (F:=F) (G:=⟨w.heap.size,0,grownCap w (n+ys.length) cap e*k1⟩::G) (w:=w.drew.alloc (.cells ((vs.toList.take (n*k1)).toArray++news.toArray++Builtin.zeroCells z.cells (grownCap w (n+ys.length) cap e-(n+ys.length))) e))
              k1 S.length 0 (n+ys.length) (grownCap w (n+ys.length) cap e) ⟨w.heap.size,0,grownCap w (n+ys.length) cap e*k1⟩ (by rw[<-hs.len,Aj]) ⟨oS,by simp⟩
             exact this
          obtain⟨nl,xs,ow,k2,nl2,ys,ow2,rfl,rfl,hk2,hlen,he⟩:=ee (fun a b c d e=>hxar ⟨a,b,c,d,e⟩) he;obtain⟨news,b2,c2,rfl,n1,n2,n3,n4⟩:=SE (P:=P) r2 hk2 OK;obtain⟨Pz,b1,cap,Lh,m1,m2,m3,m4⟩:=SE (P:=P) r1 (.inl rfl) OK;subst Lh;have hn:=n4 w (fun _ _ _=>rfl);have UZ:=n4 w.drew (fun _ _ _=>rfl);have hod:=m4 w.drew (fun _ _ _=>rfl)
          have grow:cap<xs.length+ys.length->(execOp a.eval o).run P w=.ok (.value (.slice (some ⟨w.heap.size,0,none⟩) (xs.length+ys.length) (grownCap w (xs.length+ys.length) cap e)))
            (w.drew.alloc (.cells (Pz.toArray++news.toArray++Builtin.zeroCells z.cells (grownCap w (xs.length+ys.length) cap e-(xs.length+ys.length))) e)):=fun hc=>
           run _ _ (OZ Rn hi hz hc YF hlen (by rw[Qw];exact hod) (by rw[Qw];exact UZ))
          have oS:=grownCap_ge w (xs.length+ys.length) cap e;have Hv:=m3.append n3 (rest:=Builtin.zeroCells z.cells (grownCap w (xs.length+ys.length) cap e-(xs.length+ys.length))) (by simpa using m1) (by simpa using n1)
          have MO:(Pz.toArray++news.toArray++Builtin.zeroCells z.cells (grownCap w (xs.length+ys.length) cap e-(xs.length+ys.length))).size=grownCap w (xs.length+ys.length) cap e*k:=by simp only[size_append,size_toArray,m1,n1,size_zeroCells,xM];rw[<-add_mul,<-add_mul];congr 1;omega
          have hlx:(xs++ys).length=xs.length+ys.length:=length_append;rcases he with⟨tk,rfl,htok,rfl,rfl,rfl⟩|⟨YE,he⟩
          ·
           by_cases MP:xs.length+ys.length<=cap
           .rcases ct r1 (.inr (by simp)) with⟨h,_⟩|⟨_,blk,off,cap',cc,hv,YN,Eh,h1,h2,Qu⟩
            .cases h
            .injection hv with Lh _ EM
             subst Lh EM;simp only[Ts] at Qu;obtain⟨vs,T,e1,e2,e3⟩:=hs.aV tk _ _ htok Qu;simp only at e1 e2 e3;have hle:(xs.length+ys.length)*k<=cap*k:=Nat.mul_le_mul_right k MP;rw[add_mul] at hle;have Er:=run_storeCells_at P blk (off+xs.length*k) T news 0 vs w e1 (by omega) n2;simp only[add_zero] at Er;have U6:off+xs.length*k+news.length<=vs.size:=by omega
             have hcc:∀o,(w.setRow blk (vs.toList.take (off+xs.length*k)++news++vs.toList.drop (off+xs.length*k+news.length)).toArray).cell? ⟨blk,o,none⟩ =
               if off+xs.length*k<=o/\o<off+xs.length*k+news.length then news[o-(off+xs.length*k)]? else w.cell? ⟨blk,o,none⟩:=by
              intro o;rw[Hh (setRow_heap w blk vs _ T _ e1),Rk _ _ _ _ U6,Hh e1]
             have NC:=hs.extend htok Qu (LJ (cs:=(vs.toList.take (off+xs.length*k)++news++vs.toList.drop (off+xs.length*k+news.length)).toArray) e1) (lo:=off+xs.length*k+news.length)
              (fun o ho=>by rw[hcc,if_neg];intro h;exact e3 o h.1 ho) (by simp) (fun o h1 h2=>by
               simp only at h1 h2;rw[hcc,if_pos ⟨h1,h2⟩];have:o-(off+xs.length*k)<news.length:=by omega
               exact⟨news[o-(off+xs.length*k)],gA this⟩) ⟨_,T,rfl,by
                rw[Ly _ _ _ U6]
                exact e2⟩
             refine B5 (run _ _ (LZ Rn hi MP (by rw[Qw];exact hn) (by rw[Qw];exact Er))) NC ?_;rw[<-hlx];refine .sl k (xs++ys) _ blk off cap (fun j m=>if j<xs.length then cc j m else news.getD ((j-xs.length)*k+m) undef) (fun q hq=>?_) (by omega) (fun j q m d hq hd=>?_) (fun j q m d hq hd=>?_) ?_
             .rcases List.mem_append.1 hq with hq|hq
              .exact YN q hq
              .exact n3.1 q hq
             .by_cases hj:j<xs.length
              .rw[gE hj] at hq;obtain⟨b1,b2,b3⟩:=h1 j q m d hq hd;rw[if_pos hj];refine⟨.inl b1,?_,b3⟩;rw[hcc,if_neg (fun h=>e3 _ h.1 b1)];exact b2
              .rw[gF (by omega)] at hq;obtain⟨v,a1,a2,a3⟩:=n3.2 _ q m d hq hd;have hj2:=(gB.1 hq).1
               have hm:m<k:=by have:=(gB.1 hd).1;rw[n3.1 q (gC hq)] at this;exact this
               have Ap:=lt_mul hj2 hm;have e':j*k=xs.length*k+(j-xs.length)*k:=by rw[<-add_mul];congr 1;omega
               rw[if_neg hj]
               have hv:news.getD ((j-xs.length)*k+m) undef=v:=by
                have:news[(j-xs.length)*k+m]? = some v:=by simpa using a1
                simp[this]
               rw[hv];refine⟨.inr ⟨rfl,by first|omega|(simp only;omega),by first|omega|(simp only;omega)⟩,?_,a2⟩;rw[hcc,if_pos (by omega),show off+j*k+m-(off+xs.length*k)=(j-xs.length)*k+m by omega];simpa using a1
             .by_cases hj:j<xs.length
              .rw[gE hj] at hq;rw[if_pos hj];exact(h2 j q m d hq hd).ext NC.2
              .rw[gF (by omega)] at hq;obtain⟨v,a1,a2,a3⟩:=n3.2 _ q m d hq hd;rw[if_neg hj]
               have hv:news.getD ((j-xs.length)*k+m) undef=v:=by
                have:news[(j-xs.length)*k+m]? = some v:=by simpa using a1
                simp[this]
               rw[hv];exact a3.ext NC.2
             .have e':off+(xs++ys).length*k=off+xs.length*k+news.length:=by rw[hlx,add_mul,n1];omega
              simp only[Ts];rw[e',<-hs.len,Aj]
           .obtain⟨h1,h2⟩:=hs.MW (cap:=grownCap w (xs.length+ys.length) cap e) (HK w _) Hv MO (by omega) (S0:=sset S tk (.tok false)) (E6 _ _ _) Vn;rw[E6] at h2;rw[hlx] at h1 h2;exact B5 (grow (by omega)) h1 h2
          .have hx0:xs=[]/\cap=0:=by
            rcases ct r1 (YE.elim (fun h=>.inr (by rw[h];simp)) .inl) with⟨_,hx0,hv⟩|⟨hnl,blk,off,cap',cc,hv,YN,Eh,h1,h2,Qu⟩
            .injection hv with _ _ hv
             exact⟨hx0,hv⟩
            .injection hv with _ _ hv
             rcases YE with rfl|hh
             .simp only[Ts] at Qu;exact⟨eq_nil_of_length_eq_zero (by omega),by omega⟩
             .rw[hh] at hnl;cases hnl
           obtain⟨rfl,rfl⟩:=hx0;simp only[List.length_nil,zero_add,nil_append] at grow oS Hv MO;rcases he with⟨rfl,rfl⟩|⟨Q0,rfl,rfl⟩|⟨Q0,rfl,rfl⟩
           .have hnews:news=[]:=eq_nil_of_length_eq_zero (by simpa using n1);subst hnews;refine B5 (v:=.slice b1 0 0) (w':=w) (run _ _ ?_) ⟨hs,Ext.refl _ _ _ _⟩ r1;rcases ct r1 (YE.elim (fun h=>.inr (by rw[h];simp)) .inl) with⟨_,_,hv⟩|⟨_,blk,off,cap',cc,hv,_⟩
            .injection hv with hv
             subst hv;exact XV (i:=i) Rn hi (le_refl _) (by rw[Qw];exact hn)
            .injection hv with hv
             subst hv;exact LZ (i:=i) Rn hi (le_refl _) (by rw[Qw];exact hn) (by simp[storeCells])
           .have Gu:=Ki n3 OK (by simpa using n1)
            have hle:EP dp F G w (Pz.toArray++news.toArray++Builtin.zeroCells z.cells (grownCap w ys.length 0 e-ys.length)) ys.flatten:=by have ho0:Pz=[]:=eq_nil_of_length_eq_zero (by simpa using m1);subst ho0;have KR:=Gu.1;simp only[size_toArray] at KR;refine⟨by simp only[size_append,size_toArray];omega,fun j v d hv hd=>?_⟩;have hj:=(gB.1 hd).1;rw[HL,if_neg (by simp),if_pos (by simp;omega)] at hv;exact Gu.2 j v d (by simpa using hv) hd
            refine B5 (grow Q0) (hs.MI (grownCap w ys.length 0 e*k) (HK w _) hle (fun u hu=>?_) rfl (fun _ _ h=>.inl h) (by(have ho0:Pz=[]:=eq_nil_of_length_eq_zero (by simpa using m1));subst ho0;rw[<-MO];simp)) (.ar k _ 0 _ _ ⟨w.heap.size,0,grownCap w ys.length 0 e*k⟩ (by rw[<-hs.len];exact Aj _ _) ⟨oS,by simp⟩);simp only[Array.toList_append,mem_append] at hu;rcases hu with(hu|hu)|hu
            .exact m2 u hu
            .exact n2 u hu
            .obtain⟨q,hq,rfl⟩:=List.getElem_of_mem hu;simp only[Builtin.zeroCells] at hq ⊢;have fU:q<(grownCap w ys.length 0 e-ys.length)*z.cells.size:=by simpa using hq
             have Qx:q%z.cells.size<z.cells.size:=mod_lt _ (by omega);simp[Qx];exact hzone _ (by simp)
           .obtain⟨h1,h2⟩:=hs.MW (cap:=grownCap w ys.length 0 e) (HK w _) Hv MO (by omega) (S0:=S) rfl (fun _ _ h=>.inl h);exact B5 (grow Q0) h1 h2
        .cases hu
       .cases hu
      .cases xM
     .cases lD
    .cases ht
   .cases ht
  .cases hb
 .cases hm
end
end
section
open Go
variable [Ga]
section
variable {P:Program}{dp:Nat->Option Fn}{F F':GD}{G G':List Gh}{w w':World}{S S':A1}{a:Act}{fr:List D}{o:Oper}{d:D}{cf:AQ}
def LI(dp:Nat->Option Fn)(F:GD)(G:List Gh)(w:World)(vs:Array Value)(ds:List D):Prop:=
 vs.size=ds.length/\∀(j:Nat) (v:Value) (d:D),vs[j]? = some v->ds[j]? = some d->Rel dp F G w v d
def Ez(P:Program)(dp:Nat->Option Fn)(cf:AQ):Prop:=
 ∀g f args S r S',dp g=some f->cf g args S=some (r,S')->∀F G w vs,BX dp F G w S->LI dp F G w vs args ->
  ∀R:Ending->World->Prop,(∀v w' F' G',BX dp F' G' w' S'->Ext F G w S F' G' w' S'->Rel dp F' G' w' v r->R (.returned v) w')->Calls P f.real vs w R
def Lg(P:Program)(dp:Nat->Option Fn):Prop:=∀g f,dp g=some f->∃fn,P.funcs[f.real]? = some fn/\(fn.name == "runtime.NumGoroutine")=false/\fn.body.isNone=false
theorem HU(b:Nat):¬Mx [] [] b:=by rintro⟨_,_,_,h,_⟩;cases h
theorem BX.forget(hs:BX dp F G w S):BX dp F [] w []:=
 ⟨rfl,hs.U1,fun _ _ _ h=>(by cases h),fun _ _ _ _ _ _ _ h=>(by cases h),hs.YA.O7 (fun _ _ _=>rfl) (fun b h=>absurd h (HU b)) (le_refl _)⟩
theorem BX.recall{G0:List Gh}{S0:A1}(hs:BX dp F G w S)(h:BX dp F' G0 w' S0)(e:Ext F [] w [] F' G0 w' S0):BX dp F' G w' S/\Ext F G w S F' G w' S:=by
 refine hs.step (fun b=>w.heap.size<=b) hs.len (fun _ _ h=>h) e.fT e.cells (fun b o hF=>?_) (fun b hb _=>e.frame b hb (HU b)) (fun b hb=>.inr hb) (fun id en g h1 h2=>?_) e.size e.os e.tape e.output
 .rcases e.oK b o hF with h1|h1|h1
  .exact .inl h1
  .exact(HU b h1).elim
  .exact .inr ⟨h1,h.U1 b o hF⟩
 .by_cases hh:holds en
  .have:=hs.lt h1 h2 hh;exact .inr (.inl ⟨h1,h2,by omega⟩)
  .exact .inl hh
theorem ZP(hc:Ez P dp cf){g:Nat}{f:Fn}{Gv:Bool}{args:List D}{r:D}(hg:dp g=some f)(he:Hj cf g Gv args S=some (r,S')){vs:Array Value}(hs:BX dp F G w S)
  (hv:LI dp F G w vs args) (R:Ending->World->Prop) (hR:∀v w' F' G',BX dp F' G' w' S'->Ext F G w S F' G' w' S'->Rel dp F' G' w' v r->R (.returned v) w'):Calls P f.real vs w R:=by
 unfold Hj at he;cases Gv with
 |false=>exact hc g f args S r S' hg (by simpa using he) F G w vs hs hv R hR
 |true=>
  simp only[if_true] at he;cases hi:A0 cf g args with
  |none=>simp[hi] at he
  |some q=>
   simp only[hi,map_some,Option.some.injEq,Prod.mk.injEq] at he;obtain⟨rfl,rfl⟩:=he;unfold A0 at hi;split at hi
   .rename_i hn;split at hi
    .rename_i r0 S0 Ve;split at hi
     .rename_i hr;injection hi with hi
      subst hi;refine hc g f _ [] r0 S0 hg Ve F [] w vs hs.forget ⟨by rw[KG];exact hv.1,fun j v d h1 h2=>?_⟩ R fun v w' F' G' h1 h2 h3=>?_
      .have OC:=HD hn h2;obtain⟨e,he,rfl⟩:=O0 h2;exact(hv.2 j v e h1 he).strip.plain OC []
      .obtain⟨h4,h5⟩:=hs.recall h1 h2;exact hR v w' F' G h4 h5 (h3.Ae.plain hr G)
     .cases hi
    .cases hi
   .cases hi
theorem Fr.argsA{a:Act}{fr:List D}(h:Fr dp F G w a fr){xs:Array Operand}{ys:List A}(hm:UO dp xs.toList ys=true):LI dp F G w (xs.map a.eval) (OH fr ys):=by obtain⟨h1,h2,h3⟩:=h.PA hm;refine⟨by rw[Array.size_map,h2,<-h1];simp,fun j v d hv hd=>h3 j v d ?_ hd⟩;simpa using hv
theorem Pv(J0:Lg P dp){g:Nat}{f:Fn}(hg:dp g=some f)(args:Array Value):(callFunc f.real args).run P w=.ok (.enter f.real args) w:=by
 obtain⟨fn,h1,h2,h3⟩:=J0 g f hg
 have h2':fn.name ≠ "runtime.NumGoroutine":=by simpa using h2
 cases hb:fn.body with
 |none=>simp[hb] at h3
 |some c=>simp[callFunc,h1,h2',hb]
theorem ok_call{g:Nat}{Gv:Bool}{ys:List A}(hc:Ez P dp cf)(J0:Lg P dp)(hm:mR P dp o.op (.call g Gv ys)=true)(hs:BX dp F G w S)(hf:Fr dp F G w a fr)
  (he:Hj cf g Gv (OH fr ys) S=some (d,S')):Lk P dp F G w S a o d S':=by
 simp only[mR] at hm;split at hm
 .rename_i c ho;simp only[and_eq_true] at hm;obtain⟨h1,h2⟩:=hm;split at h1
  .rename_i f MN;unfold mF at h1;split at h1
   .rename_i x hx;simp only[beq_iff_eq] at h1;subst h1;intro next Q hn
    have Ei:(execOp a.eval o).run P w=.ok (.enter x.real (c.args.map a.eval)) w:=by simp only[execOp,ho,resolve,MN,Act.eval,Deferred.ofValue,Sem.run_bind,Sem.run_pure,Result.andThen,invoke,Array.append_empty,empty_append,Pv J0 hx]
    simp only[Oper.wp,Ei,Oper.upon];exact ZP hc hx he hs (hf.argsA h2) _ fun v w' F' G' k1 k2 k3=>hn v w' F' G' k1 k2 k3
   .cases h1
  .cases h1
 .cases hm
theorem LI.append{vs us:Array Value}{xs ys:List D}(h1:LI dp F G w vs xs)(h2:LI dp F G w us ys):LI dp F G w (vs++us) (xs++ys):=by
 refine⟨by simp[h1.1,h2.1],fun j v d hv hd=>?_⟩;by_cases hj:j<xs.length
 .rw[gE hj] at hd;rw[Array.getElem?_append_left (by rw[h1.1];exact hj)] at hv;exact h1.2 j v d hv hd
 .rw[gF (by omega)] at hd;rw[Array.getElem?_append_right (by rw[h1.1];omega),h1.1] at hv;exact h2.2 _ v d hv hd
theorem pw{x:A}{g:Nat}{cs:List D}{Gv:Bool}{ys:List A}(hc:Ez P dp cf)(J0:Lg P dp)(hm:mR P dp o.op (.BL x Gv ys)=true)(hs:BX dp F G w S)(hf:Fr dp F G w a fr)
  (hx:av fr x=.fn g cs) (he:Hj cf g Gv (OH fr ys++cs) S=some (d,S')):Lk P dp F G w S a o d S':=by
 simp only[mR] at hm;split at hm
 .rename_i c ho;simp only[and_eq_true] at hm;obtain⟨h1,h2⟩:=hm;split at h1
  .rename_i xo MN;have r1:=hf.eval h1;rw[hx] at r1;generalize Lh:a.eval xo=v1 at r1;cases r1 with
   |fn _ f hg vs _ hl h=>
    intro next Q hn
    have Ei:(execOp a.eval o).run P w=.ok (.enter f.real (c.args.map a.eval++vs)) w:=by simp only[execOp,ho,resolve,MN,Lh,Deferred.ofValue,Sem.run_bind,Sem.run_pure,Result.andThen,invoke,empty_append,Pv J0 hg]
    simp only[Oper.wp,Ei,Oper.upon];exact ZP hc hg he hs ((hf.argsA h2).append ⟨hl,h⟩) _ fun v w' F' G' k1 k2 k3=>hn v w' F' G' k1 k2 k3
  .cases h1
 .cases hm
theorem CO{Z β:Type}{x:Option Z}{f:Z->β×A1}{r:β×A1}(h:x.map f=some r):∃y,x=some y/\f y=r:=by
 cases x with
 |none=>cases h
 |some y=>exact⟨y,rfl,by simpa using h⟩
theorem ok_R(hc:Ez P dp cf)(J0:Lg P dp){r:R}(hm:mR P dp o.op r=true)(hs:BX dp F G w S)(hf:Fr dp F G w a fr)(he:E7 cf fr S r=some (d,S')):Lk P dp F G w S a o d S':=by
 cases r with
 |mv x=>
  simp only[E7,Option.some.injEq,Prod.mk.injEq] at he;obtain⟨rfl,rfl⟩:=he;exact(pur_mv hm hf).ok hs
 |Et x=>
  simp only[E7] at he;split at he
  .rename_i i p heq;simp only[Option.some.injEq,Prod.mk.injEq] at he;obtain⟨rfl,rfl⟩:=he;have:=PR hm hf (by rw[heq]);rw[heq] at this;exact this.ok hs
  .rename_i i p heq;simp only[Option.some.injEq,Prod.mk.injEq] at he;obtain⟨rfl,rfl⟩:=he;have:=PR hm hf (by rw[heq]);rw[heq] at this;exact this.ok hs
  .rename_i i p heq;simp only[Option.some.injEq,Prod.mk.injEq] at he;obtain⟨rfl,rfl⟩:=he;have:=PR hm hf (by rw[heq]);rw[heq] at this;exact this.ok hs
  .cases he
 |pick c x y=>
  simp only[E7] at he;split at he
  .rename_i t heq;simp only[Option.some.injEq,Prod.mk.injEq] at he;obtain⟨rfl,rfl⟩:=he;exact(rH hm hf heq).ok hs
  .cases he
 |alloc z=>
  simp only[E7,Option.some.injEq,Prod.mk.injEq] at he;obtain⟨rfl,rfl⟩:=he;exact vi hm hs
 |box k g x=>
  obtain⟨cs,h1,h2⟩:=CO he;simp only[Prod.mk.injEq] at h2;obtain⟨rfl,rfl⟩:=h2;exact ok_box hm hs hf h1
 |CT z ps=>
  obtain⟨cs,h1,h2⟩:=CO he;simp only[Prod.mk.injEq] at h2;obtain⟨rfl,rfl⟩:=h2;exact(AAT hm hf h1).ok hs
 |EZ k g own xs=>
  obtain⟨l,h1,h2⟩:=CO he;have:=ok_bsl hm hs hf h1;unfold W2 at this;rw[h2] at this;exact this
 |xD k g xs=>
  obtain⟨l,h1,h2⟩:=CO he;simp only[Prod.mk.injEq] at h2;obtain⟨rfl,rfl⟩:=h2;exact ok_bsa hm hs hf h1
 |ld k g x=>
  obtain⟨l,h1,h2⟩:=CO he;simp only[Prod.mk.injEq] at h2;obtain⟨rfl,rfl⟩:=h2;exact(pur_ld hm hs hf h1).ok hs
 |st k g x v=>
  obtain⟨l,h1,h2⟩:=CO he;simp only[Prod.mk.injEq] at h2;obtain⟨rfl,rfl⟩:=h2;unfold Ax at h1;split at h1
  .rename_i id p heq;split at h1
   .rename_i cs K9;split at h1
    .rename_i ds hds;split at h1
     .rename_i hle;injection h1 with h1
      subst h1;exact ok_st hm hs hf heq K9 hds hle
     .cases h1
    .cases h1
   .cases h1
  .cases h1
 |bin op q x y=>
  obtain⟨l,h1,h2⟩:=CO he;simp only[Prod.mk.injEq] at h2;obtain⟨rfl,rfl⟩:=h2;exact(pur_bin hm hf h1).ok hs
 |un op x=>
  obtain⟨l,h1,h2⟩:=CO he;simp only[Prod.mk.injEq] at h2;obtain⟨rfl,rfl⟩:=h2;exact(pur_un hm hf h1).ok hs
 |conv k x=>
  simp only[E7] at he;split at he
  .rename_i k' n heq;simp only[Option.some.injEq,Prod.mk.injEq] at he;obtain⟨rfl,rfl⟩:=he;exact(wQ hm hf heq).ok hs
  .cases he
 |KP g cs=>
  simp only[E7,Option.some.injEq,Prod.mk.injEq] at he;obtain⟨rfl,rfl⟩:=he;exact(wH hm hf).ok hs
 |Hy=>
  simp only[E7,Option.some.injEq,Prod.mk.injEq] at he;obtain⟨rfl,rfl⟩:=he;exact xB hm hs
 |Lo k arr z n=>
  simp only[E7] at he;split at he
  .rename_i k' m heq;split at he
   .rename_i Hz;have:=zk hm hs hf heq Hz.1 Hz.2
    have e:PH k arr z m.toNat S=(d,S'):=by
     apply Option.some.inj;rw[<-he];unfold PH;by_cases h0:m.toNat=0
     .have:m=0:=by omega
      subst this;cases arr<;>simp
     .have oR:¬m=0:=by omega
      cases arr<;>simp[h0,oR]
    rw[e] at this;exact this
   .cases he
  .cases he
 |Ty k x lo hi=>
  obtain⟨l,h1,h2⟩:=CO he;simp only[Prod.mk.injEq] at h2;obtain⟨rfl,rfl⟩:=h2;exact(pur_slc hm hf h1).ok hs
 |Tz x lo hi=>
  obtain⟨l,h1,h2⟩:=CO he;simp only[Prod.mk.injEq] at h2;obtain⟨rfl,rfl⟩:=h2;exact(qi hm hf h1).ok hs
 |fa off x=>
  simp only[E7] at he;split at he
  .rename_i id p heq;simp only[Option.some.injEq,Prod.mk.injEq] at he;obtain⟨rfl,rfl⟩:=he;exact(tc hm hf (by rw[heq])).ok hs
  .rename_i cs p heq;simp only[Option.some.injEq,Prod.mk.injEq] at he;obtain⟨rfl,rfl⟩:=he;exact(tc hm hf (by rw[heq])).ok hs
  .cases he
 |Wy off k g x=>
  simp only[E7] at he;split at he
  .rename_i cs heq;obtain⟨l,h1,h2⟩:=CO he;simp only[Prod.mk.injEq] at h2;obtain⟨rfl,rfl⟩:=h2;exact(yi hm hf heq h1).ok hs
  .cases he
 |ia k x i=>
  obtain⟨l,h1,h2⟩:=CO he;simp only[Prod.mk.injEq] at h2;obtain⟨rfl,rfl⟩:=h2;exact(pur_ia hm hf h1).ok hs
 |pA n k x i=>
  simp only[E7] at he;split at he
  .rename_i id p k' m h1 h2;split at he
   .rename_i Hz;simp only[Option.some.injEq,Prod.mk.injEq] at he;obtain⟨rfl,rfl⟩:=he;exact(yg hm hf h1 h2 Hz.1 Hz.2).ok hs
   .cases he
  .cases he
 |pB x i=>
  simp only[E7] at he;split at he
  .rename_i l k' m h1 h2;split at he
   .rename_i Hz;obtain⟨c,h3,h4⟩:=CO he;simp only[Prod.mk.injEq] at h4;obtain⟨rfl,rfl⟩:=h4;exact(pur_ixs hm hf h1 h2 Hz h3).ok hs
   .cases he
  .cases he
 |lk kk ok z m key=>
  simp only[E7] at he;split at he
  .rename_i hk;split at he
   .rename_i heq;simp only[Option.some.injEq,Prod.mk.injEq] at he;obtain⟨rfl,rfl⟩:=he;exact(cq (r:=none) hm hs hf hk (by rw[heq];rfl)).ok hs
   .rename_i id heq;split at he
    .rename_i es K9;split at he
     .rename_i v hv;simp only[Option.some.injEq,Prod.mk.injEq] at he;obtain⟨rfl,rfl⟩:=he;exact(cq (r:=some v) hm hs hf hk (by rw[heq];simp only[zl,K9,hv])).ok hs
     .rename_i hv;simp only[Option.some.injEq,Prod.mk.injEq] at he;obtain⟨rfl,rfl⟩:=he;exact(cq (r:=none) hm hs hf hk (by rw[heq];simp only[zl,K9,hv])).ok hs
     .cases he
    .cases he
   .cases he
  .cases he
 |mu kk m key v=>
  simp only[E7] at he;split at he
  .rename_i hk;split at he
   .rename_i id heq;split at he
    .rename_i es K9;obtain⟨OI,h1,h2⟩:=CO he;simp only[Prod.mk.injEq] at h2;obtain⟨rfl,rfl⟩:=h2;exact ok_mu hm hs hf hk heq K9 h1
    .cases he
   .cases he
  .cases he
 |U0 kk z m key=>
  simp only[E7] at he;split at he
  .rename_i hk;split at he
   .rename_i id heq;split at he
    .rename_i es K9;split at he
     .rename_i j hp;refine km (r:=(d,S')) hm hs hf hk heq K9 hp ?_;simp only[Ox];exact he
     .rename_i hp;refine km (r:=(d,S')) hm hs hf hk heq K9 hp ?_;simp only[Ox];exact he
     .cases he
    .cases he
   .cases he
  .cases he
 |xE m j v=>
  simp only[E7] at he;split at he
  .rename_i id k' n h1 h2;split at he
   .rename_i es K9;split at he
    .rename_i Hz;simp only[Option.some.injEq,Prod.mk.injEq] at he;obtain⟨rfl,rfl⟩:=he;exact ok_est hm hs hf h1 h2 K9 Hz.1 Hz.2
    .cases he
   .cases he
  .cases he
 |ext x j=>
  simp only[E7] at he;split at he
  .rename_i cs heq;obtain⟨l,h1,h2⟩:=CO he;simp only[Prod.mk.injEq] at h2;obtain⟨rfl,rfl⟩:=h2;exact(zy hm hf heq h1).ok hs
  .cases he
 |len str x=>
  simp only[E7] at he;split at he
  .rename_i k' nl xs ow heq;simp only[Option.some.injEq,Prod.mk.injEq] at he;obtain⟨rfl,rfl⟩:=he;exact(Xn hm hf (by rw[heq])).ok hs
  .rename_i k' id p n heq;simp only[Option.some.injEq,Prod.mk.injEq] at he;obtain⟨rfl,rfl⟩:=he;exact(Xn hm hf (by rw[heq])).ok hs
  .rename_i l heq;simp only[Option.some.injEq,Prod.mk.injEq] at he;obtain⟨rfl,rfl⟩:=he;exact(Xn hm hf (by rw[heq])).ok hs
  .cases he
 |app k arr x y=>exact ok_app (r:=(d,S')) hm hs hf he
 |mx x y=>
  simp only[E7] at he;split at he
  .rename_i k p k' q h1 h2;split at he
   .rename_i hk;subst hk;simp only[Option.some.injEq,Prod.mk.injEq] at he;obtain⟨rfl,rfl⟩:=he;exact(pur_mx hm hf h1 h2).ok hs
   .cases he
  .cases he
 |mn x y=>
  simp only[E7] at he;split at he
  .rename_i k p k' q h1 h2;split at he
   .rename_i hk;subst hk;simp only[Option.some.injEq,Prod.mk.injEq] at he;obtain⟨rfl,rfl⟩:=he;exact(pur_mn hm hf h1 h2).ok hs
   .cases he
  .cases he
 |xF k z x=>
  simp only[E7] at he;split at he
  .rename_i k' id p n heq;split at he
   .rename_i Hz;obtain⟨rfl,hz⟩:=Hz;split at he
    .rename_i cs K9;split at he
     .rename_i hle;simp only[Option.some.injEq,Prod.mk.injEq] at he;obtain⟨rfl,rfl⟩:=he;exact rU hm hs hf (.inl ⟨id,p,n,cs,heq,hz,K9,hle,rfl⟩)
     .cases he
    .cases he
   .cases he
  .rename_i k' nl ow heq;simp only[Option.some.injEq,Prod.mk.injEq] at he;obtain⟨rfl,rfl⟩:=he;exact rU hm hs hf (.inr ⟨k',nl,ow,heq,rfl⟩)
  .cases he
 |call g Gv args=>exact ok_call hc J0 hm hs hf he
 |BL f Gv args=>
  simp only[E7] at he;split at he
  .rename_i g cs heq;exact pw hc J0 hm hs hf heq he
  .cases he
 |EN x y=>
  simp only[E7] at he;split at he
  .rename_i l m h1 h2;simp only[Option.some.injEq,Prod.mk.injEq] at he;obtain⟨rfl,rfl⟩:=he;exact(ok_cmps hm hf h1 h2).ok hs
  .cases he
end
end
section
open Go
variable [Ga]
def UM:I->Option Nat
 |.op dst _ _=>dst
 |.fz t=>some t
 |.ck _ _=>none
def J6:I->Option (Option Nat×Option (Nat×Bool)×R)
 |.op dst gd r=>some (dst,gd,r)
 |.ck t r=>some (some t,none,r)
 |.fz _=>none
def VA:I->Bool
 |.op _ _ r=>match kdR r with | .x=>true | _=>false
 |_=>false
def kdX(r:R):Bool:=match kdR r with|.x=>true|_=>false
def kdP(r:R):Bool:=match kdR r with|.p=>true|_=>false
def nX:List (Nat×I)->Nat
 |[]=>0
 |(_,i)::l=>(if VA i then 1 else 0)+nX l
def GY:List (Nat×I)->List Nat
 |[]=>[]
 |(j,i)::l=>if VA i then j::GY l else GY l
def xw:Nat->List (Nat×I)->List (Nat×Nat×I)
 |_,[]=>[]
 |n,(j,i)::l=>(n,j,i)::xw ((if VA i then 1 else 0)+n) l
def H4(u:Nat)(l:List (Nat×I)):Bool:=l.all fun q=>UM q.2 != some u
def uniq:List (Nat×I)->Bool
 |[]=>true
 |(_,i)::l=>(match i with | .op (some t) _ _=>H4 t l | .ck t _=>H4 t l | _=>true)&&uniq l
def PV(B:List Nat)(q j:Nat):Bool:=(B.getD j 0).testBit q
def ndB:List Nat->Bool
 |[]=>true
 |x::l=>l.all (fun y=>y != x)&&ndB l
def MH(B:List Nat):List Nat->Bool
 |x::y::l=>PV B x y&&MH B (y::l)
 |_=>true
def usO:I->List Nat
 |.op _ gd r=>usG gd++usR r
 |.fz _=>[]
 |.ck _ r=>usR r
def jI(ops:List Oper)(B:List Nat)(pre:List (Nat×I))(j:Nat)(i:I)(post:List (Nat×I)):Bool:=
 (usO i).all fun u=>(H4 u ((j,i)::post)&&ops.zipIdx.all fun q=>q.1.dst != some u||PV B q.2 j)||(H4 u pre&&ops.zipIdx.all fun q=>q.1.dst != some u||PV B j q.2)
def XE(ops:List Oper)(B:List Nat):List (Nat×I)->List (Nat×I)->Bool
 |_,[]=>true
 |pre,(j,i)::l=>jI ops B pre j i l&&XE ops B (pre++[(j,i)]) l
def JZ(P:Program)(dp:Nat->Option Fn)(ops:List Oper)(j:Nat)(i:I):Bool:=match ops[j]? with
 |some o=>match J6 i with
  |some (dst,gd,r)=>mI P dp ops o (.op dst gd r)
  |none=>false
 |none=>false
def oC:I->Bool
 |.ck _ r=>!kdX r
 |_=>true
def covOk(B xs:List Nat)(A:List (Nat×Nat×I))(pf:Nat)(j:Nat):Bool:=
 A.any (fun q=>q.2.1==j&&(match q.2.2 with|.op _ _ r=>kdP r||kdX r|_=>false)) ||
 (List.range (xs.length+1)).all fun k=>xs.zipIdx.any (fun x=>(PV B x.1 j && !decide (x.2<k)&&x.2 != pf)||(PV B j x.1 && !decide (k<=x.2))) ||
  A.any fun q=>q.1==k&&q.2.1==j && !VA q.2.2
def ya(ops:List Oper):Bool:=ops.zipIdx.all fun q=>q.1.after.toList.all fun e=>!Region.binds .any e||decide (e.on<q.2)
def brk(B:List Nat):Nat->List Nat->Option Nat
 |n,x::y::l=>if PV B x y then brk B (n+1) (y::l) else some (n+1)
 |_,_=>none
def K6:I->Option Nat
 |.op (some t) none (.alloc _)=>some t
 |_=>none
def flOk(ops:List Oper)(B xs:List Nat)(A:List (Nat×Nat×I))(p f t:Nat):Bool:=
 decide (p<xs.length)&&(xs.getD p 0==f)&&(match xs[p+1]? with|some y=>PV B f y|none=>false) &&
 A.any (fun q=>q.1==p&&q.2.1==f&&K6 q.2.2==some t) &&
 ops.zipIdx.all (fun q=>q.2==f||q.1.dst != some t) &&
 A.all fun q=>q.2.1==f||!(usO q.2.2).contains t||(VA q.2.2&&decide (p<q.1))
def qb(A:List (Nat×Nat×I))(p:Nat):Option (Nat×Nat):=match A.find? (fun q=>q.1==p&&VA q.2.2) with
 |some q=>match K6 q.2.2 with
  |some t=>some (q.2.1,t)
  |none=>none
 |none=>none
def mDr(P:Program)(dp:Nat->Option Fn)(ops:List Oper)(is:List (Nat×I)):Bool:=
 let B:=Ju ops []
 let A:=xw 0 is
 let xs:=GY is
 is.all (fun q=>JZ P dp ops q.1 q.2&&oC q.2)&&uniq is&&XE ops B [] is&&ya ops&&ndB xs&&(match brk B 0 xs with
  |none=>true
  |some p=>MH B (xs.eraseIdx p)&&(match qb A p with | some (f,t)=>flOk ops B xs A p f t | none=>false))&&(List.range ops.length).all fun j=>covOk B xs A ((brk B 0 xs).getD xs.length) j
theorem Yr{B:List Nat}:∀{l:List Nat} {n:Nat},brk B n l=none->MH B l=true
 |[],_,_=>rfl
 |[_],_,_=>rfl
 |x::y::l,n,h=>by
  simp only[brk] at h;split at h
  .rename_i hb;simp only[MH,hb,Bool.true_and];exact Yr h
  .cases h
section
variable {cf:AQ}{fr Au:List D}{S S':A1}
theorem AX{x:A}(h:∀t∈Ho x,Ah fr t=Ah Au t):av fr x=av Au x:=by
 cases x with
 |t n=>exact h n (by simp[Ho])
 |c d=>rfl
theorem Mn{x:Option A}(h:∀t∈sq x,Ah fr t=Ah Au t):Vo fr x=Vo Au x:=by
 cases x with
 |none=>rfl
 |some x=>simp only[Vo,AX (x:=x) h]
theorem Mm:∀{xs:List A},(∀t∈UK xs,Ah fr t=Ah Au t)->OH fr xs=OH Au xs
 |[],_=>rfl
 |x::xs,h=>by simp only[UK,mem_append] at h;simp only[OH];rw[AX fun t ht=>h t (.inl ht),Mm fun t ht=>h t (.inr ht)]
theorem TB:∀{ps:List (Nat×Nat×Bool×A)} {z:List D},(∀t∈zN ps,Ah fr t=Ah Au t)->Qi fr z ps=Qi Au z ps
 |[],_,_=>rfl
 |(o,k,g,x)::ps,z,h=>by
  simp only[zN,mem_append] at h;simp only[Qi];rw[AX fun t ht=>h t (.inl ht)];split
  .split
   .exact TB fun t ht=>h t (.inr ht)
   .rfl
  .rfl
theorem Ji{k:Nat}{g:Bool}:∀{xs:List A},(∀t∈UK xs,Ah fr t=Ah Au t)->Bk fr k g xs=Bk Au k g xs
 |[],_=>rfl
 |x::xs,h=>by simp only[UK,mem_append] at h;simp only[Bk];rw[AX fun t ht=>h t (.inl ht),Ji fun t ht=>h t (.inr ht)]
theorem nK{r:R}(h:∀t∈usR r,Ah fr t=Ah Au t):E7 cf fr S r=E7 cf Au S r:=by
 cases r<;>simp only[usR,mem_append] at h<;>simp only[E7]
 case mv x=>rw[AX h]
 case Et x=>rw[AX h]
 case pick c a b=>rw[AX fun t ht=>h t (.inl ht),AX (x:=a) fun t ht=>h t (.inr (.inl ht)),AX (x:=b) fun t ht=>h t (.inr (.inr ht))]
 case box k g x=>rw[AX h]
 case CT z ps=>rw[TB h]
 case EZ k g own xs=>rw[Ji h]
 case xD k g xs=>rw[Ji h]
 case ld k g x=>rw[AX h]
 case st k g a v=>rw[AX fun t ht=>h t (.inl ht),AX (x:=v) fun t ht=>h t (.inr ht)]
 case bin op q x y=>rw[AX fun t ht=>h t (.inl ht),AX (x:=y) fun t ht=>h t (.inr ht)]
 case un op x=>rw[AX h]
 case conv k x=>rw[AX h]
 case KP g cs=>rw[Mm h]
 case Lo k arr z n=>rw[AX h]
 case Ty k x lo hi=>rw[AX fun t ht=>h t (.inl ht),Mn (x:=lo) fun t ht=>h t (.inr (.inl ht)),Mn (x:=hi) fun t ht=>h t (.inr (.inr ht))]
 case Tz x lo hi=>rw[AX fun t ht=>h t (.inl ht),Mn (x:=lo) fun t ht=>h t (.inr (.inl ht)),Mn (x:=hi) fun t ht=>h t (.inr (.inr ht))]
 case fa o x=>rw[AX h]
 case Wy o k g x=>rw[AX h]
 case ia k x i=>rw[AX fun t ht=>h t (.inl ht),AX (x:=i) fun t ht=>h t (.inr ht)]
 case pA n k x i=>rw[AX fun t ht=>h t (.inl ht),AX (x:=i) fun t ht=>h t (.inr ht)]
 case pB x i=>rw[AX fun t ht=>h t (.inl ht),AX (x:=i) fun t ht=>h t (.inr ht)]
 case lk kk ok z m key=>rw[AX fun t ht=>h t (.inl ht),AX (x:=key) fun t ht=>h t (.inr ht)]
 case mu kk m key v=>rw[AX fun t ht=>h t (.inl ht),AX (x:=key) fun t ht=>h t (.inr (.inl ht)),AX (x:=v) fun t ht=>h t (.inr (.inr ht))]
 case U0 kk z m key=>rw[AX fun t ht=>h t (.inl ht),AX (x:=key) fun t ht=>h t (.inr ht)]
 case xE m j v=>rw[AX fun t ht=>h t (.inl ht),AX (x:=j) fun t ht=>h t (.inr (.inl ht)),AX (x:=v) fun t ht=>h t (.inr (.inr ht))]
 case ext x j=>rw[AX h]
 case len str x=>rw[AX h]
 case app k arr x y=>rw[AX fun t ht=>h t (.inl ht),AX (x:=y) fun t ht=>h t (.inr ht)]
 case mx x y=>rw[AX fun t ht=>h t (.inl ht),AX (x:=y) fun t ht=>h t (.inr ht)]
 case mn x y=>rw[AX fun t ht=>h t (.inl ht),AX (x:=y) fun t ht=>h t (.inr ht)]
 case xF k z x=>rw[AX h]
 case call g Gv args=>rw[Mm h]
 case BL f Gv args=>rw[AX fun t ht=>h t (.inl ht),Mm fun t ht=>h t (.inr ht)]
 case EN x y=>rw[AX fun t ht=>h t (.inl ht),AX (x:=y) fun t ht=>h t (.inr ht)]
theorem Vp{gd:Option (Nat×Bool)}(h:∀t∈usG gd,Ah fr t=Ah Au t):DE.wanted fr gd=DE.wanted Au gd:=by
 cases gd with
 |none=>rfl
 |some p=>
  obtain⟨t,b⟩:=p;simp only[DE.wanted];rw[h t (by simp[usG])]
theorem map_snd{Z β:Type}{x:Option Z}{f:Z->β}{T:A1}{r:β×A1}(h:(x.map fun y=>(f y,T))=some r):r.2=T:=by
 cases x with
 |none=>cases h
 |some y=>simp at h;rw[<-h]
theorem ZN{r:R}{d:D}(hk:kdX r=false)(h:E7 cf fr S r=some (d,S')):S'=S:=by
 cases r<;>simp only[kdX,kdR] at hk<;>(try (cases hk;done))<;>simp only[E7] at h
 case mv x=>injection h with h;injection h with _ h;exact h.symm
 case Et x=>split at h<;>first|(injection h with h;injection h with _ h;exact h.symm)|cases h
 case pick c a b=>split at h<;>first|(injection h with h;injection h with _ h;exact h.symm)|cases h
 case CT z ps=>exact map_snd h
 case EZ k g own xs=>
  cases hc:Bk fr k g xs with
  |none=>simp[hc] at h
  |some l=>
   have hl:=EJ hc;simp only[hc,map_some,Option.some.injEq] at h;cases own with
   |false=>simp at h;exact h.2.symm
   |true=>
    cases xs with
    |nil=>
     have:l=[]:=eq_nil_of_length_eq_zero (by simpa using hl);subst this;simp at h;exact h.2.symm
    |cons x xs=>simp at hk
 case ld k g x=>exact map_snd h
 case bin op q x y=>exact map_snd h
 case un op x=>exact map_snd h
 case conv k x=>split at h<;>first|(injection h with h;injection h with _ h;exact h.symm)|cases h
 case KP g cs=>injection h with h;injection h with _ h;exact h.symm
 case Ty k x lo hi=>exact map_snd h
 case Tz x lo hi=>exact map_snd h
 case fa o x=>split at h<;>first|(injection h with h;injection h with _ h;exact h.symm)|cases h
 case Wy o k g x=>
  split at h
  .exact map_snd h
  .cases h
 case ia k x i=>exact map_snd h
 case pA n k x i=>
  split at h
  .split at h
   .injection h with h;injection h with _ h;exact h.symm
   .cases h
  .cases h
 case pB x i=>
  split at h
  .split at h
   .exact map_snd h
   .cases h
  .cases h
 case lk kk ok z m key=>
  split at h
  .split at h
   .injection h with h;injection h with _ h;exact h.symm
   .split at h
    .split at h<;>first|(injection h with h;injection h with _ h;exact h.symm)|cases h
    .cases h
   .cases h
  .cases h
 case ext x j=>
  split at h
  .exact map_snd h
  .cases h
 case len str x=>split at h<;>first|(injection h with h;injection h with _ h;exact h.symm)|cases h
 case mx x y=>
  split at h
  .split at h
   .injection h with h;injection h with _ h;exact h.symm
   .cases h
  .cases h
 case mn x y=>
  split at h
  .split at h
   .injection h with h;injection h with _ h;exact h.symm
   .cases h
  .cases h
 case call g Gv args=>
  cases Gv with
  |false=>simp at hk
  |true=>simp only[Hj,if_true] at h;exact map_snd h
 case BL f Gv args=>
  cases Gv with
  |false=>simp at hk
  |true=>
   split at h
   .simp only[Hj,if_true] at h;exact map_snd h
   .cases h
 case EN x y=>split at h<;>first|(injection h with h;injection h with _ h;exact h.symm)|cases h
theorem Gc{Z β:Type}{x:Option Z}{f:Z->β}{T T':A1}{d:β}(h:(x.map fun y=>(f y,T))=some (d,T)):(x.map fun y=>(f y,T'))=some (d,T'):=by
 cases x with
 |none=>cases h
 |some y=>simp at h ⊢;exact h
theorem evR_any{r:R}{d:D}(hk:kdP r=true)(h:E7 cf fr S r=some (d,S))(T:A1):E7 cf fr T r=some (d,T):=by
 cases r<;>simp only[kdP,kdR] at hk<;>(try (cases hk;done))<;>simp only[E7] at h ⊢
 case mv x=>injection h with h;injection h with h _;rw[h]
 case Et x=>split at h<;>first|(injection h with h;injection h with h _;rw[<-h])|cases h
 case pick c a b=>split at h<;>first|(injection h with h;injection h with h _;rw[<-h])|cases h
 case CT z ps=>exact Gc h
 case EZ k g own xs=>
  cases hc:Bk fr k g xs with
  |none=>simp[hc] at h
  |some l=>
   have hl:=EJ hc;simp only[hc,map_some,Option.some.injEq] at h ⊢;cases own with
   |false=>simp at h ⊢;exact h
   |true=>
    cases xs with
    |nil=>
     have:l=[]:=eq_nil_of_length_eq_zero (by simpa using hl);subst this;simp at h ⊢;exact h
    |cons x xs=>simp at hk
 case bin op q x y=>exact Gc h
 case un op x=>exact Gc h
 case conv k x=>split at h<;>first|(injection h with h;injection h with h _;rw[<-h])|cases h
 case KP g cs=>injection h with h;injection h with h _;rw[h]
 case Ty k x lo hi=>exact Gc h
 case Tz x lo hi=>exact Gc h
 case fa o x=>split at h<;>first|(injection h with h;injection h with h _;rw[<-h])|cases h
 case Wy o k g x=>
  split at h
  .exact Gc h
  .cases h
 case ia k x i=>exact Gc h
 case pA n k x i=>
  split at h
  .split at h
   .rename_i hc;rw[if_pos hc];injection h with h;injection h with h _;rw[h]
   .cases h
  .cases h
 case pB x i=>
  split at h
  .split at h
   .rename_i hc;rw[if_pos hc];exact Gc h
   .cases h
  .cases h
 case ext x j=>
  split at h
  .exact Gc h
  .cases h
 case len str x=>split at h<;>first|(injection h with h;injection h with h _;rw[<-h])|cases h
 case mx x y=>
  split at h
  .split at h
   .rename_i hc;rw[if_pos hc];injection h with h;injection h with h _;rw[h]
   .cases h
  .cases h
 case mn x y=>
  split at h
  .split at h
   .rename_i hc;rw[if_pos hc];injection h with h;injection h with h _;rw[h]
   .cases h
  .cases h
 case call g Gv args=>
  cases Gv with
  |false=>simp at hk
  |true=>simp only[Hj,if_true] at h ⊢;exact Gc h
 case BL f Gv args=>
  cases Gv with
  |false=>simp at hk
  |true=>
   split at h
   .simp only[Hj,if_true] at h ⊢;exact Gc h
   .cases h
 case EN x y=>split at h<;>first|(injection h with h;injection h with h _;rw[<-h])|cases h
end
end
section
open Go
variable [Ga]
theorem oeq_eq{a b:JB}(h:oeq a b=true):a=b:=by cases a<;>cases b<;>simp_all [oeq]
mutual
theorem tV:∀{x y:D},GF x y=true->x=y
 |.top,y,h=>by cases y<;>simp_all [GF]
 |.b x,y,h=>by cases y<;>simp_all [GF]
 |.i k x,y,h=>by cases y<;>simp_all [GF]
 |.s x,y,h=>by cases y<;>simp_all [GF]
 |.sl k n xs o,y,h=>by
  cases y<;>simp only[GF,and_eq_true,beq_iff_eq] at h<;>try (cases h;done)
  obtain⟨⟨⟨rfl,rfl⟩,h1⟩,h2⟩:=h;rw[oeq_eq h1,aD h2]
 |.agg x,y,h=>by
  cases y<;>simp only[GF] at h<;>try (cases h;done)
  rw[Jy h]
 |.AY x,y,h=>by
  cases y<;>simp only[GF] at h<;>try (cases h;done)
  rw[Jy h]
 |.bx a b,y,h=>by cases y<;>simp_all [GF]
 |.el x a,y,h=>by
  cases y<;>simp only[GF,and_eq_true,beq_iff_eq] at h<;>try (cases h;done)
  rw[h.1,Jy h.2]
 |.ar a b c d,y,h=>by cases y<;>simp_all [GF]
 |.KO,y,h=>by cases y<;>simp_all [GF]
 |.Cy,y,h=>by cases y<;>simp_all [GF]
 |.mp a,y,h=>by cases y<;>simp_all [GF]
 |.fn a x,y,h=>by
  cases y<;>simp only[GF,and_eq_true,beq_iff_eq] at h<;>try (cases h;done)
  rw[h.1,Jy h.2]
theorem Jy:∀{x y:List D},Lm x y=true->x=y
 |[],[],_=>rfl
 |[],_::_,h=>by simp[Lm] at h
 |_::_,[],h=>by simp[Lm] at h
 |x::l,y::m,h=>by simp only[Lm,and_eq_true] at h;rw[tV h.1,Jy h.2]
theorem aD:∀{x y:List (List D)},NP x y=true->x=y
 |[],[],_=>rfl
 |[],_::_,h=>by simp[NP] at h
 |_::_,[],h=>by simp[NP] at h
 |x::l,y::m,h=>by simp only[NP,and_eq_true] at h;rw[Jy h.1,aD h.2]
end
section
variable {cf:AQ}{fr Au:List D}{S S':A1}
def ay(cf:AQ)(JI Au:List D)(S1 S2:A1)(i:I):Prop:=
 ∀dst gd r,J6 i=some (dst,gd,r)->∃b,DE.wanted JI gd=some b /\
  (b=true->∃d,E7 cf JI S1 r=some (d,S2)/\∀t,dst=some t->Ah Au t=if t<Au.length then d else .top) /\
  (b=false->S2=S1/\∀t,dst=some t->Ah Au t=if t<Au.length then .AY [] else .top)
theorem Jd(fr:List D)(dst:Option Nat)(d:D)(t:Nat)(h:dst≠some t):Ah (GW fr dst d) t=Ah fr t:=by
 cases dst with
 |none=>rfl
 |some u=>
  simp only[GW,CM];rw[if_neg (fun hh=>h (by rw[hh.1]))]
theorem Hs(fr:List D)(t:Nat)(d:D):Ah (GW fr (some t) d) t=if t<fr.length then d else .top:=by
 simp only[GW,CM,true_and];by_cases h:t<fr.length
 .rw[if_pos h,if_pos h]
 .rw[if_neg h,if_neg h,OV _ _ (by omega)]
theorem L0(fr:List D)(dst:Option Nat)(d:D):(GW fr dst d).length=fr.length:=by
 cases dst with
 |none=>rfl
 |some t=>exact C6 _ _ _
theorem my{i:I}(hfz:J6 i≠none)(h:Mv cf fr S i=some (Au,S')):Au.length=fr.length/\∀t,UM i≠some t->Ah Au t=Ah fr t:=by
 cases i with
 |op dst gd r=>
  simp only[Mv] at h;split at h
  .cases hr:E7 cf fr S r with
   |none=>simp[hr] at h
   |some p=>
    simp only[hr,map_some,Option.some.injEq,Prod.mk.injEq] at h;obtain⟨rfl,rfl⟩:=h;exact⟨L0 _ _ _,fun t ht=>Jd _ _ _ _ ht⟩
  .simp only[Option.some.injEq,Prod.mk.injEq] at h;obtain⟨rfl,rfl⟩:=h;exact⟨L0 _ _ _,fun t ht=>Jd _ _ _ _ ht⟩
  .cases h
 |fz t=>simp[J6] at hfz
 |ck t r=>
  simp only[Mv] at h;split at h
  .split at h
   .simp only[Option.some.injEq,Prod.mk.injEq] at h;obtain⟨rfl,rfl⟩:=h;exact⟨rfl,fun _ _=>rfl⟩
   .cases h
  .cases h
theorem o9{i:I}(hx:VA i=false)(UF:oC i=true)(hfz:J6 i≠none)(h:Mv cf fr S i=some (Au,S')):S'=S:=by
 cases i with
 |op dst gd r=>
  simp only[Mv] at h;split at h
  .cases hr:E7 cf fr S r with
   |none=>simp[hr] at h
   |some p=>
    simp only[hr,map_some,Option.some.injEq,Prod.mk.injEq] at h;obtain⟨rfl,rfl⟩:=h;exact ZN (d:=p.1) (by simpa[VA,kdX] using hx) hr
  .simp only[Option.some.injEq,Prod.mk.injEq] at h;exact h.2.symm
  .cases h
 |fz t=>simp[J6] at hfz
 |ck t r=>
  simp only[Mv] at h;split at h
  .split at h
   .simp only[Option.some.injEq,Prod.mk.injEq] at h;exact h.2.symm
   .cases h
  .cases h
theorem Mu{u:Nat}{l:List (Nat×I)}(h:H4 u l=true):∀q∈l,UM q.2≠some u:=fun q hq=>by simpa using List.all_eq_true.1 h q hq
theorem rY{i:I}{aY:List D}{S1:A1}(UF:oC i=true)(h:Mv cf fr S i=some (aY,S1))(hl:Au.length=fr.length)
  (hd:∀t,(UM i=some t\/∃r,i=.ck t r)->Ah Au t=Ah aY t):ay cf fr Au S S1 i:=by
 intro dst gd r ha;cases i with
 |op fV gd' r'=>
  simp only[J6,Option.some.injEq,Prod.mk.injEq] at ha;obtain⟨rfl,rfl,rfl⟩:=ha;simp only[Mv] at h;split at h
  .rename_i hwt;refine⟨true,hwt,fun _=>?_,fun h=>(by cases h)⟩;cases he:E7 cf fr S r' with
   |none=>simp[he] at h
   |some p=>
    simp only[he,map_some,Option.some.injEq,Prod.mk.injEq] at h;obtain⟨rfl,rfl⟩:=h;refine⟨p.1,rfl,fun t ht=>?_⟩;subst ht;rw[hd t (.inl rfl),Hs,hl]
  .rename_i hwf;simp only[Option.some.injEq,Prod.mk.injEq] at h;obtain⟨rfl,rfl⟩:=h;refine⟨false,hwf,fun h=>(by cases h),fun _=>⟨rfl,fun t ht=>?_⟩⟩;subst ht;rw[hd t (.inl rfl),Hs,hl]
  .cases h
 |fz t=>simp[J6] at ha
 |ck t r'=>
  simp only[J6,Option.some.injEq,Prod.mk.injEq] at ha;obtain⟨rfl,rfl,rfl⟩:=ha;refine⟨true,rfl,fun _=>?_,fun h=>(by cases h)⟩;simp only[Mv] at h;split at h
  .rename_i d T he;split at h
   .rename_i hdq;simp only[Option.some.injEq,Prod.mk.injEq] at h;obtain⟨rfl,rfl⟩:=h;have hk:kdX r'=false:=by simpa[oC] using UF
    have:=ZN (d:=d) hk he;subst this;refine⟨d,he,fun u hu=>?_⟩;injection hu with hu;subst hu
    rw[hd t (.inr ⟨r',rfl⟩),tV hdq,hl];by_cases Ap:t<fr.length
    .rw[if_pos Ap]
    .rw[if_neg Ap,OV _ _ (by omega)]
   .cases h
  .cases h
theorem trace:∀(is:List (Nat×I)) {fr S Au S'},GX cf fr S (Kr is)=some (Au,S')->uniq is=true->(∀q∈is,J6 q.2≠none/\oC q.2=true) ->
  Au.length=fr.length/\(∀t,(∀q∈is,UM q.2≠some t)->Ah Au t=Ah fr t) /\
  ∃KA:Nat->A1,KA 0=S/\KA (nX is)=S'/\∀pre j i post,is=pre++(j,i)::post->∃JI,JI.length=fr.length/\(∀u,H4 u pre=true->Ah JI u=Ah fr u) /\
   (∀u,H4 u ((j,i)::post)=true->Ah JI u=Ah Au u)/\ay cf JI Au (KA (nX pre)) (KA (nX pre+if VA i then 1 else 0)) i
 |[],fr,S,Au,S',h,_,_=>by simp only[Kr,GX,Option.some.injEq,Prod.mk.injEq] at h;obtain⟨rfl,rfl⟩:=h;exact⟨rfl,fun _ _=>rfl,fun _=>S,rfl,rfl,fun pre j i post h=>by cases pre<;>cases h⟩
 |(j,i)::is,fr,S,Au,S',h,hsep,Bg=>by
  simp only[Kr,GX] at h;split at h
  .rename_i aY S1 he;simp only[uniq,and_eq_true] at hsep;obtain⟨Ro,hs3⟩:=hsep;obtain⟨hfz,UF⟩:=Bg (j,i) (by simp);obtain⟨hl,hun,KA,e0,em,Vf⟩:=trace is h hs3 fun q hq=>Bg q (by simp[hq]);obtain⟨pE,hf1⟩:=my hfz he;have hlen:Au.length=fr.length:=hl.trans pE
   have oT:∀t,(∀q∈(j,i)::is,UM q.2≠some t)->Ah Au t=Ah fr t:=fun t ht=>
    (hun t fun q hq=>ht q (by simp[hq])).trans (hf1 t (ht (j,i) (by simp)))
   have hhd:ay cf fr Au S S1 i:=by
    refine rY UF he hlen fun t ht=>hun t ?_;rcases ht with ht|⟨r,rfl⟩
    .cases i with
     |op dst gd r=>
      simp only[UM] at ht;subst ht;exact Mu Ro
     |fz u=>simp[J6] at hfz
     |ck u r=>cases ht
    .exact Mu Ro
   have head:∃JI,JI.length=fr.length/\(∀u,H4 u []=true->Ah JI u=Ah fr u)/\(∀u,H4 u ((j,i)::is)=true->Ah JI u=Ah Au u)/\ay cf JI Au S S1 i:=
    ⟨fr,rfl,fun _ _=>rfl,fun u hu=>(oT u (Mu hu)).symm,hhd⟩
   have later:∀pre j' i' post T1 T2,(∃JI,JI.length=aY.length/\(∀u,H4 u pre=true->Ah JI u=Ah aY u)/\(∀u,H4 u ((j',i')::post)=true->Ah JI u=Ah Au u)/\ay cf JI Au T1 T2 i') ->
     ∃JI,JI.length=fr.length/\(∀u,H4 u ((j,i)::pre)=true->Ah JI u=Ah fr u)/\(∀u,H4 u ((j',i')::post)=true->Ah JI u=Ah Au u)/\ay cf JI Au T1 T2 i':=by
    rintro pre j' i' post T1 T2 ⟨JI,a1,a2,a3,a4⟩;refine⟨JI,a1.trans pE,fun u hu=>?_,a3,a4⟩;have hu':=Mu hu;rw[a2 u (by simp only[H4,List.all_cons,and_eq_true] at hu ⊢;exact hu.2)];exact hf1 u (hu' (j,i) (by simp))
   cases hx:VA i with
   |false=>
    have Er:=o9 hx UF hfz he;subst Er;refine⟨hlen,oT,KA,e0,by simp only[nX,hx];simpa using em,fun pre j' i' post hp=>?_⟩;cases pre with
    |nil=>
     simp only[nil_append,List.cons.injEq,Prod.mk.injEq] at hp;obtain⟨⟨rfl,rfl⟩,rfl⟩:=hp;simp only[nX,hx,false_eq_true,if_false,add_zero,e0];exact head
    |cons q pre=>
     simp only[cons_append,List.cons.injEq] at hp;obtain⟨rfl,hp⟩:=hp;simp only[nX,hx,false_eq_true,if_false,zero_add];exact later pre j' i' post _ _ (Vf pre j' i' post hp)
   |true=>
    refine⟨hlen,oT,fun n=>match n with|0=>S|n+1=>KA n,rfl,by simp only[nX,hx,if_true];rw[add_comm];exact em,fun pre j' i' post hp=>?_⟩;cases pre with
    |nil=>
     simp only[nil_append,List.cons.injEq,Prod.mk.injEq] at hp;obtain⟨⟨rfl,rfl⟩,rfl⟩:=hp;simp only[nX,hx,if_true,zero_add,e0];exact head
    |cons q pre=>
     simp only[cons_append,List.cons.injEq] at hp;obtain⟨rfl,hp⟩:=hp;have:=later pre j' i' post _ _ (Vf pre j' i' post hp);simp only[nX,hx,if_true];rw[add_comm 1 (nX pre),Nat.add_right_comm];exact this
  .cases h
theorem Tg{ops:List Oper}{B:List Nat}:∀{l pre:List (Nat×I)},XE ops B pre l=true->∀p j i post,l=p++(j,i)::post->jI ops B (pre++p) j i post=true
 |[],_,_,p,j,i,post,h=>by cases p<;>cases h
 |(j',i')::l,pre,hu,p,j,i,post,h=>by
  simp only[XE,and_eq_true] at hu;cases p with
  |nil=>
   simp only[nil_append,List.cons.injEq,Prod.mk.injEq] at h;obtain⟨⟨rfl,rfl⟩,rfl⟩:=h;simpa using hu.1
  |cons q p=>
   simp only[cons_append,List.cons.injEq] at h;obtain⟨rfl,h⟩:=h;have:=Tg hu.2 p j i post h;simpa using this
end
inductive Bef(ops:List Oper):Nat->Nat->Prop
 |edge {j:Nat} {o:Oper} {e:Edge} (ho:ops[j]? = some o) (he:e∈o.after.toList) (hb:Region.binds .any e=true):Bef ops e.on j
 |step {q j:Nat} {o:Oper} {e:Edge} (ho:ops[j]? = some o) (he:e∈o.after.toList) (hb:Region.binds .any e=true) (h:Bef ops q e.on):Bef ops q j
theorem Z1(acc:List Nat):∀(l:List Edge) (s q:Nat),(l.foldl (fun s e=>if Region.binds .any e then s |||2^e.on |||acc.getD e.on 0 else s) s).testBit q=true ->
  s.testBit q=true\/∃e∈l,Region.binds .any e=true/\(q=e.on\/(acc.getD e.on 0).testBit q=true)
 |[],s,q,h=>.inl h
 |e::l,s,q,h=>by
  simp only[List.foldl_cons] at h;rcases Z1 acc l _ q h with h|⟨e',aj,h1,h2⟩
  .split at h
   .rename_i hb;simp only[Nat.testBit_or,or_eq_true,Nat.testBit_two_pow,decide_eq_true_eq] at h;rcases h with(h|h)|h
    .exact .inl h
    .exact .inr ⟨e,by simp,hb,.inl h.symm⟩
    .exact .inr ⟨e,by simp,hb,.inr h⟩
   .exact .inl h
  .exact .inr ⟨e',by simp[aj],h1,h2⟩
theorem TS:∀(l pre:List Oper) (acc:List Nat),acc.length=pre.length->(∀j q,(acc.getD j 0).testBit q=true->Bef (pre++l) q j) ->
  ∀j q,((Ju l acc).getD j 0).testBit q=true->Bef (pre++l) q j
 |[],pre,acc,_,h=>h
 |o::l,pre,acc,hl,h=>by
  intro j q hq;have e:pre++o::l=(pre++[o])++l:=by simp
  simp only[Ju] at hq;rw[e];refine TS l (pre++[o]) _ (by simp[hl]) (fun j q hj=>?_) j q hq;rw[<-e];by_cases h1:j<acc.length
  .refine h j q ?_;rw[gD,gE h1,<-gD] at hj;exact hj
  .by_cases h2:j=acc.length
   .subst h2;rw[gD,gF (le_refl _)] at hj;simp only[Nat.sub_self,List.getElem?_cons_zero,getD_some] at hj;have ho:(pre++o::l)[acc.length]? = some o:=by rw[hl];simp
    rcases Z1 acc _ _ _ hj with h3|⟨e',aj,hb,h3|h3⟩
    .simp at h3
    .subst h3;exact .edge ho aj hb
    .exact .step ho aj hb (h _ _ h3)
   .rw[gD,List.getElem?_eq_none (by simp;omega)] at hj;simp at hj
theorem TE{ops:List Oper}{q j:Nat}(h:PV (Ju ops []) q j=true):Bef ops q j:=
 TS ops [] [] rfl (fun j q h=>by simp at h) j q h
theorem Bef.closed{ops:List Oper}{L:Nat->Prop}(YP:∀j o e,L j->ops[j]? = some o->e∈o.after.toList->Region.binds .any e=true->L e.on){q j:Nat}(h:Bef ops q j) :
  (∀o e,ops[j]? = some o->e∈o.after.toList->Region.binds .any e=true->L e.on)->L q:=by
 induction h with
 |edge ho he hb=>exact fun hj=>hj _ _ ho he hb
 |step ho he hb h ih=>exact fun hj=>ih fun o e h1 h2 h3=>YP _ o e (hj _ _ ho he hb) h1 h2 h3
theorem X6:∀{is:List (Nat×I)} {n k j:Nat} {i:I},(k,j,i)∈xw n is->∃pre post,is=pre++(j,i)::post/\k=n+nX pre
 |[],_,_,_,_,h=>by simp[xw] at h
 |(j',i')::is,n,k,j,i,h=>by
  simp only[xw,mem_cons,Prod.mk.injEq] at h;rcases h with⟨rfl,rfl,rfl⟩|h
  .exact⟨[],is,rfl,by simp[nX]⟩
  .obtain⟨pre,post,h1,h2⟩:=X6 h;refine⟨(j',i')::pre,post,by rw[h1];rfl,?_⟩;simp only[nX];omega
theorem sU:∀{is pre:List (Nat×I)} {j:Nat} {i:I} {post:List (Nat×I)},is=pre++(j,i)::post->VA i=true->(GY is)[nX pre]? = some j
 |_,[],j,i,post,rfl,hx=>by simp[GY,hx,nX]
 |_,(j',i')::pre,j,i,post,rfl,hx=>by
  have ih:=sU (is:=pre++(j,i)::post) rfl hx;simp only[cons_append,GY,nX];split
  .rw[add_comm,List.getElem?_cons_succ];exact ih
  .rw[zero_add];exact ih
theorem cL:∀{is:List (Nat×I)} {p j:Nat} (n:Nat),(GY is)[p]? = some j->∃i,(n+p,j,i)∈xw n is/\VA i=true
 |[],_,_,_,h=>by simp[GY] at h
 |(j',i')::is,p,j,n,h=>by
  simp only[GY] at h;simp only[xw];cases hx:VA i' with
  |true=>
   rw[hx,if_pos rfl] at h;cases p with
   |zero=>
    simp at h;subst h;exact⟨i',by simp,hx⟩
   |succ p=>
    obtain⟨i,h1,h2⟩:=cL (1+n) (by simpa using h);refine⟨i,?_,h2⟩;simp only[if_true,mem_cons];rw[show n+(p+1)=1+n+p by omega];exact .inr h1
  |false=>
   rw[hx] at h;simp only[false_eq_true,if_false] at h;obtain⟨i,h1,h2⟩:=cL (0+n) h;refine⟨i,?_,h2⟩;simp only[false_eq_true,if_false,mem_cons];rw[zero_add] at h1 ⊢;exact .inr h1
theorem bf:∀(is:List (Nat×I)),(GY is).length=nX is
 |[]=>rfl
 |(j,i)::is=>by
  simp only[GY,nX];split
  .simp[bf is];omega
  .simp[bf is]
theorem cw:∀{l:List Nat} {i j x y:Nat},ndB l=true->l[i]? = some x->l[j]? = some y->i≠j->x≠y
 |[],_,_,_,_,_,h,_,_=>by simp at h
 |a::l,0,0,_,_,_,_,_,h=>absurd rfl h
 |a::l,0,j+1,x,y,hn,h1,h2,_=>by simp only[ndB,and_eq_true,all_eq_true] at hn;simp at h1 h2;have:=hn.1 y (gC h2);simp at this;rw[<-h1];exact fun e=>this e.symm
 |a::l,i+1,0,x,y,hn,h1,h2,_=>by simp only[ndB,and_eq_true,all_eq_true] at hn;simp at h1 h2;have:=hn.1 x (gC h1);simp at this;rw[<-h2];exact this
 |a::l,i+1,j+1,x,y,hn,h1,h2,h=>by simp only[ndB,and_eq_true] at hn;exact cw hn.2 (by simpa using h1) (by simpa using h2) (by omega)
theorem Kt{B:List Nat}:∀{l:List Nat} {i x y:Nat},MH B l=true->l[i]? = some x->l[i+1]? = some y->PV B x y=true
 |[],_,_,_,_,h,_=>by simp at h
 |[_],0,_,_,_,_,h=>by simp at h
 |[_],_+1,_,_,_,h,_=>by simp at h
 |a::b::l,0,x,y,hc,h1,h2=>by simp only[MH,and_eq_true] at hc;simp at h1 h2;subst h1 h2;exact hc.1
 |a::b::l,i+1,x,y,hc,h1,h2=>by simp only[MH,and_eq_true] at hc;exact Kt hc.2 (by simpa using h1) (by simpa using h2)
theorem aL{p p':Nat->Bool}:∀{l:List Nat} {x:Nat},(∀y∈l,p' y=true->p y=true)->x∈l->p x=true->p' x=false->l.countP p'<l.countP p
 |[],_,_,h,_,_=>by simp at h
 |y::l,x,hm,hx,h1,h2=>by
  have hle:l.countP p'<=l.countP p:=List.countP_mono_left fun z hz=>hm z (by simp[hz]);simp only[List.countP_cons];by_cases Vc:x=y
  .subst Vc;simp[h1,h2];omega
  .have:=aL (p:=p) (p':=p') (l:=l) (fun z hz=>hm z (by simp[hz])) (by simpa[Vc] using hx) h1 h2;have hy:=hm y (by simp);cases hp:p' y with
   |false=>simp;omega
   |true=>simp[hy hp];omega
end
section
open Go
variable [Ga]
section
variable {P:Program}{dp:Nat->Option Fn}{F F':GD}{G G':List Gh}{w w':World}{S S':A1}{a:Act}{fr Au:List D}{o:Oper}{d:D}{cf:AQ}
theorem O9{ops:Array Oper}{gd:Option (Nat×Bool)}{b:Bool}(hm:mGd ops.toList o.guard gd=true)(hf:Fr dp F G w a fr)(hw:DE.wanted fr gd=some b):Region.wanted o (yielded ops a.tmps)=b:=by
 unfold mGd at hm;split at hm
 .rename_i h1;simp only[DE.wanted,Option.some.injEq] at hw;simp[Region.wanted,h1,hw]
 .rename_i j x t y h1;simp only[and_eq_true,beq_iff_eq] at hm;obtain⟨rfl,hm⟩:=hm;split at hm
  .rename_i op PM;split at hm
   .rename_i u hu;simp only[beq_iff_eq] at hm;subst hm;have hr:=hf.rel u;have hop':ops[j]? = some op:=by simpa using PM
    simp only[Region.wanted,h1];simp only[DE.wanted] at hw;cases ht:a.tmps[u]? with
    |none=>
     have hy:yielded ops a.tmps j=none:=by simp[yielded,hop',hu,ht]
     rw[hy];have hg:a.tmps.getD u undef=undef:=by simp[ht]
     rw[hg] at hr;split at hw
     .rename_i y hy';rw[hy'] at hr;cases hr
     .simp only[Option.some.injEq] at hw;subst hw;rfl
     .cases hw
    |some v=>
     have hg:a.tmps.getD u undef=v:=by simp[ht]
     rw[hg] at hr;split at hw
     .rename_i y hy';rw[hy'] at hr;cases hr;have hy:yielded ops a.tmps j=some y:=by simp[yielded,hop',hu,ht]
      rw[hy];simp only[Option.some.injEq] at hw;rw[<-hw];simp
     .rename_i hy';rw[hy'] at hr;cases hr;have hy:yielded ops a.tmps j=none:=by simp[yielded,hop',hu,ht]
      rw[hy];simp only[Option.some.injEq] at hw;rw[<-hw];rfl
     .cases hw
   .cases hm
  .cases hm
 .cases hm
theorem V3:Rel dp F G w undef (.AY []):=.AY #[] [] rfl fun j v d h=>by simp at h
theorem put_defers(a:Act)(t:Option Nat)(v:Value):(a.put t v).defers=a.defers:=by cases t<;>rfl
theorem step_op{ops:Array Oper}{Q:Exit->Act->World->Prop}{K:Act->World->Prop}{dst:Option Nat}{gd:Option (Nat×Bool)}{r:R}{b:Bool}(hc:Ez P dp cf)(J0:Lg P dp)
  (hm:mI P dp ops.toList o (.op dst gd r)=true) (hs:BX dp F G w S) (hf:Fr dp F G w a fr) (hw:DE.wanted fr gd=some b)
  (hd:(b=true/\E7 cf fr S r=some (d,S'))\/(b=false/\d=.AY []/\S'=S))
  (hK:∀a' w' F' G',BX dp F' G' w' S'->Ext F G w S F' G' w' S'->Fr dp F' G' w' a' (GW fr dst d)->a'.defers=a.defers->K a' w') :
  if Region.wanted o (yielded ops a.tmps) then o.wp P a w K Q\/(o.asks P a w/\LetsOut Q) else K (a.put o.dst undef) w:=by
 simp only[mI,and_eq_true] at hm;obtain⟨⟨h1,h2⟩,h3⟩:=hm
 have OD:o.dst=dst:=by
  unfold Zt at h1;split at h1
  .rename_i e;rw[e]
  .rename_i e;rw[e];simpa using h1
  .cases h1
 rw[O9 h2 hf hw];rcases hd with⟨rfl,he⟩|⟨rfl,rfl,rfl⟩
 .simp only[if_true];refine .inl (ok_R hc J0 h3 hs hf he K Q fun v w' F' G' k1 k2 k3=>hK _ w' F' G' k1 k2 ?_ (put_defers _ _ _));rw[OD];exact(hf.ext k2).put dst k3
 .simp only[false_eq_true,if_false];refine hK _ w F G hs (Ext.refl _ _ _ _) ?_ (put_defers _ _ _);rw[OD];exact hf.put dst V3
theorem pP{ops:Array Oper}{Q:Exit->Act->World->Prop}{K:Act->World->Prop}{dst:Option Nat}{gd:Option (Nat×Bool)}{r:R}{b:Bool}(hc:Ez P dp cf)(J0:Lg P dp)
  (hm:mI P dp ops.toList o (.op dst gd r)=true) (hs:BX dp F G w S) (hf:Fr dp F G w a fr) (hw:DE.wanted fr gd=some b)
  (hd:(b=true/\E7 cf fr S r=some (d,S'))\/(b=false/\d=.AY []/\S'=S))
  (hK:∀v w' F' G',BX dp F' G' w' S'->Ext F G w S F' G' w' S'->Fr dp F' G' w' (a.put o.dst v) (GW fr dst d)->K (a.put o.dst v) w') :
  if Region.wanted o (yielded ops a.tmps) then o.wp P a w K Q\/(o.asks P a w/\LetsOut Q) else K (a.put o.dst undef) w:=by
 simp only[mI,and_eq_true] at hm;obtain⟨⟨h1,h2⟩,h3⟩:=hm
 have OD:o.dst=dst:=by
  unfold Zt at h1;split at h1
  .rename_i e;rw[e]
  .rename_i e;rw[e];simpa using h1
  .cases h1
 rw[O9 h2 hf hw];rcases hd with⟨rfl,he⟩|⟨rfl,rfl,rfl⟩
 .simp only[if_true];refine .inl (ok_R hc J0 h3 hs hf he K Q fun v w' F' G' k1 k2 k3=>hK v w' F' G' k1 k2 ?_);rw[OD];exact(hf.ext k2).put dst k3
 .simp only[false_eq_true,if_false];refine hK undef w F G hs (Ext.refl _ _ _ _) ?_;rw[OD];exact hf.put dst V3
theorem evI_op{dst:Option Nat}{gd:Option (Nat×Bool)}{r:R}{aY:List D}{S1:A1}(h:Mv cf fr S (.op dst gd r)=some (aY,S1)) :
  ∃b d,DE.wanted fr gd=some b/\((b=true/\E7 cf fr S r=some (d,S1))\/(b=false/\d=.AY []/\S1=S))/\aY=GW fr dst d:=by
 simp only[Mv] at h;split at h
 .rename_i hw;cases hr:E7 cf fr S r with
  |none=>simp[hr] at h
  |some p=>
   simp only[hr,map_some,Option.some.injEq,Prod.mk.injEq] at h;obtain⟨rfl,rfl⟩:=h;exact⟨true,p.1,hw,.inl ⟨rfl,rfl⟩,rfl⟩
 .rename_i hw;simp only[Option.some.injEq,Prod.mk.injEq] at h;obtain⟨rfl,rfl⟩:=h;exact⟨false,.AY [],hw,.inr ⟨rfl,rfl,rfl⟩,rfl⟩
 .cases h
theorem fF{ops:Array Oper}{Q:Exit->Act->World->Prop}(hc:Ez P dp cf)(J0:Lg P dp):∀(is:List I) (l:List Oper) {fr S Au S' F G w a},TY P dp ops.toList l is=true->GX cf fr S is=some (Au,S') ->
  BX dp F G w S->Fr dp F G w a fr->(∀a' w' F' G',BX dp F' G' w' S'->Ext F G w S F' G' w' S'->Fr dp F' G' w' a' Au->a'.defers=a.defers->Q .normal a' w')->wpList P ops Q l a w
 |[],l,fr,S,Au,S',F,G,w,a,hm,he,hs,hf,hQ=>by
  cases l with
  |nil=>
   simp only[GX,Option.some.injEq,Prod.mk.injEq] at he;obtain⟨rfl,rfl⟩:=he;exact hQ a w F G hs (Ext.refl _ _ _ _) hf rfl
  |cons o l=>simp[TY] at hm
 |i::is,l,fr,S,Au,S',F,G,w,a,hm,he,hs,hf,hQ=>by
  simp only[GX] at he;split at he
  .rename_i aY S1 hi;cases i with
   |fz t=>
    have hm':TY P dp ops.toList l is=true:=by cases l<;>simpa[TY] using hm
    simp only[Mv] at hi;cases hz:Lr (Ah fr t) S with
    |none=>simp[hz] at hi
    |some p=>
     simp only[hz,map_some,Option.some.injEq,Prod.mk.injEq] at hi;obtain⟨rfl,rfl⟩:=hi;obtain⟨F1,k1,k2,k3⟩:=ok_fz hs hf hz;exact fF hc J0 is l hm' he k1 k3 fun a' w' F' G' q1 q2 q3 q4=>hQ a' w' F' G' q1 (k2.trans q2) q3 q4
   |op dst gd r=>
    cases l with
    |nil=>simp[TY] at hm
    |cons o l=>
     simp only[TY,and_eq_true] at hm;obtain⟨b,d,hw,hd,rfl⟩:=evI_op hi;unfold wpList
     exact step_op hc J0 hm.1 hs hf hw hd fun a' w' F' G' k1 k2 k3 k4=>
      fF hc J0 is l hm.2 he k1 k3 fun a'' w'' F'' G'' q1 q2 q3 q4=>hQ a'' w'' F'' G'' q1 (k2.trans q2) q3 (q4.trans k4)
   |ck t r=>
    cases l with
    |nil=>simp[TY] at hm
    |cons o l=>simp[TY,mI] at hm
  .cases he
theorem BX.drew(hs:BX dp F G w S)(hf:Fr dp F G w a fr):BX dp F G w.drew S/\Ext F G w S F G w.drew S/\Fr dp F G w.drew a fr:=by
 have h:=hs.step (w':=w.drew) (fun _=>False) hs.len (fun _ _ h=>h) (fun _ _ h=>h) (fun _ _ _=>rfl) (fun _ _ h=>.inl h) (fun _ _ _=>rfl) (fun _ h=>h.elim)
  (fun id e g h1 h2=>.inr (.inl ⟨h1,h2,fun h=>h⟩)) (le_refl _) rfl ⟨rfl,Ga.succ _⟩ rfl
 exact⟨h.1,h.2,hf.ext h.2⟩
structure mG(P:Program)(F:GD)(G:List Gh)(S:A1)(w0 w:World)(a:Act)(PN:List D)(z:List D)(t:Nat):Prop where
 slot:Ah PN t=.top
 blk:∃b vs T,(t<a.tmps.size->a.tmps.getD t undef=.pointer (some ⟨b,0,none⟩))/\w.heap[b]? = some (.cells vs T (0,0))/\nT vs.toList z=true/\(∀u∈vs.toList,u.oneCell'=true) /\
  (∀o,¬F b o)/\¬Mx S G b/\w0.heap.size<=b/\∀q∈P4,q.1≠b
structure Inv(P:Program)(dp:Nat->Option Fn)(F:GD)(G:List Gh)(w0:World)(S0:A1)(ops:Array Oper)(xs:List Nat)(KA:Nat->A1)(fr0 Au:List D)(ds:List Deferred)(p f t:Nat)(z:List D)
  (fin:Bool) (L:Array Bool) (a:Act) (w:World):Prop where
 size:L.size=ops.size
 closed:∀(j:Nat) (o:Oper) (e:Edge),L.getD j false=true->ops.toList[j]? = some o->e∈o.after.toList->Region.binds .any e=true->L.getD e.on false=true
 defers:a.defers=ds
 st:∃k PN F1 G1,k<=xs.length/\(∀(i x:Nat),xs[i]? = some x->i≠p->(L.getD x false=true<->i<k))/\BX dp F1 G1 w (KA k)/\Ext F G w0 S0 F1 G1 w (KA k)/\Fr dp F1 G1 w a PN/\PN.length=Au.length /\
  (∀(j:Nat) (o:Oper) (t:Nat),L.getD j false=true->¬(j=f/\k<=p)->ops.toList[j]? = some o->o.dst=some t->Ah PN t=Ah Au t) /\
  (∀t,(∀(j:Nat) (o:Oper),L.getD j false=true->ops.toList[j]? = some o->o.dst≠some t)->Ah PN t=Ah fr0 t) /\
  (p<k->p<xs.length->L.getD f false=true)/\(L.getD f false=true->f<ops.size->k<=p->(fin=true->k<p)/\mG P F1 G1 (KA k) w0 w a PN z t)
theorem vU(a:Act)(dst:Option Nat)(v:Value)(t:Nat)(h:dst≠some t):(a.put dst v).tmps.getD t undef=a.tmps.getD t undef/\(a.put dst v).tmps.size=a.tmps.size:=by
 cases dst with
 |none=>exact⟨rfl,rfl⟩
 |some u=>
  have CF:u≠t:=fun e=>h (by rw[e]);refine⟨?_,by simp[Act.put]⟩;simp only[Act.put,Array.getD_eq_getD_getElem?];rw[Array.getElem?_setIfInBounds_ne CF]
theorem mG.O7{F1 F2:GD}{G1 G2:List Gh}{S1 S2:A1}{w0 w1 w2:World}{a1:Act}{PN:List D}{z:List D}{t:Nat}(h:mG P F1 G1 S1 w0 w1 a1 PN z t)(e:Ext F1 G1 w1 S1 F2 G2 w2 S2)
  (dst:Option Nat) (v:Value) (d:D) (hd:dst≠some t) (fV:Option Nat) (PI:fV≠some t):mG P F2 G2 S2 w0 w2 (a1.put dst v) (GW PN fV d) z t:=by
 obtain⟨b,vs,T,h1,h2,h3,h4,h5,h6,h7⟩:=h.blk;have hb:=On h2;obtain⟨e1,e2⟩:=vU a1 dst v t hd;refine⟨(Jd _ _ _ _ PI).trans h.slot,b,vs,T,fun hl=>?_,(e.frame b hb h6).trans h2,h3,h4,fun o ho=>?_,fun ho=>?_,h7⟩
 .rw[e1];exact h1 (by rw[<-e2];exact hl)
 .rcases e.oK b o ho with q|q|q
  .exact h5 o q
  .exact h6 q
  .omega
 .rcases e.own b ho with q|q
  .exact h6 q
  .omega
theorem mG.attach{F1:GD}{G1:List Gh}{S1:A1}{w0 w1:World}{a1:Act}{PN:List D}{z:List D}{t:Nat}(h:mG P F1 G1 S1 w0 w1 a1 PN z t)(hs:BX dp F1 G1 w1 S1)(e:Ext F G w0 S F1 G1 w1 S1)(hf:Fr dp F1 G1 w1 a1 PN) :
  ∃G2,BX dp F1 G2 w1 (.box z::S1)/\Ext F G w0 S F1 G2 w1 (.box z::S1)/\Fr dp F1 G2 w1 a1 (Bc PN t (.bx S1.length 0)):=by
 obtain⟨b,vs,T,h1,h2,h3,h4,h5,h6,h7,h8⟩:=h.blk;have hG:∀id g,AA G1 id=some g->AA (⟨b,0,0⟩::G1) id=some g:=fun id g h=>by rw[BM _ _ _ (AJ h)];exact h
 have lE:∀{v:Value} {d:D},Rel dp F1 G1 w1 v d->Rel dp F1 (⟨b,0,0⟩::G1) w1 v d:=fun h=>h.mono (fun _ _ h=>h) hG (fun _ _ _=>rfl);have oU:AA ((⟨b,0,0⟩:Gh)::G1) S1.length=some ⟨b,0,0⟩:=by rw[<-hs.len,Aj]
 have NV:∀(id:Nat) (en:B9) (g:Gh),AA (.box z::S1) id=some en->AA ((⟨b,0,0⟩:Gh)::G1) id=some g->(id=S1.length/\en=.box z/\g=⟨b,0,0⟩)\/(AA S1 id=some en/\AA G1 id=some g):=by
  intro id en g k1 k2;by_cases hid:id=S1.length
  .subst hid;rw[Aj] at k1;rw[oU] at k2;injection k1 with k1
   injection k2 with k2
   exact .inl ⟨rfl,k1.symm,k2.symm⟩
  .right;have Ap:=AJ k1;simp at Ap;rw[BM _ _ _ (by omega)] at k1;rw[BM _ _ _ (by rw[hs.len];omega)] at k2;exact⟨k1,k2⟩
 have YP:EP dp F1 (⟨b,0,0⟩::G1) w1 vs z:=by have hl:=LL h3;exact⟨by rw[<-hl];simp,fun j v d hv hd=>RF (Rc h3 (by simpa using hv) hd)⟩
 refine⟨⟨b,0,0⟩::G1,⟨by simp[hs.len],hs.U1,?_,?_,fun q hq=>⟨(hs.YA q hq).1,(hs.YA q hq).2.1,?_⟩⟩,⟨e.fT,fun id g h=>hG id g (e.xG id g h),e.cells,e.frame,?_,e.oK,e.size,e.os,e.tape,e.output⟩,⟨by rw[C6];exact hf.len,fun u=>?_⟩⟩
 .intro id en g k1 k2;rcases NV id en g k1 k2 with⟨_,rfl,rfl⟩|⟨q1,q2⟩
  .exact⟨vs,T,h2,⟨YP.1,Nat.zero_le _⟩,h5,h4,YP.2⟩
  .by_cases hh:holds en
   .refine(hs.aV id en g q1 q2).O7 (T:=fun _=>False) hh hG (fun _ _ h=>h) (fun _ _ _=>rfl) (fun _ _ h=>.inl h) rfl (fun h=>h)
   .exact KV.free hh
 .intro i j en en' g g' l8 k1 k2 hh hh' q1 q2;rcases NV i en g k1 q1 with⟨e1,_,e3⟩|⟨a1',a2⟩
  .rcases NV j en' g' k2 q2 with⟨e1',_,_⟩|⟨b1,b2⟩
   .exact absurd (e1.trans e1'.symm) l8
   .subst e3;exact fun heq=>h6 ⟨j,en',g',b1,hh',b2,heq.symm⟩
  .rcases NV j en' g' k2 q2 with⟨_,_,e3⟩|⟨b1,b2⟩
   .subst e3;exact fun heq=>h6 ⟨i,en,g,a1',hh,a2,heq⟩
   .exact hs.sep i j en en' g g' l8 a1' b1 hh hh' a2 b2
 .rintro⟨id,en,g,k1,k2,k3,heq⟩;rcases NV id en g k1 k3 with⟨_,_,rfl⟩|⟨q1,q2⟩
  .exact h8 q hq heq.symm
  .exact(hs.YA q hq).2.2 ⟨id,en,g,q1,k2,q2,heq⟩
 .rintro c ⟨id,en,g,k1,k2,k3,rfl⟩;rcases NV id en g k1 k3 with⟨_,_,rfl⟩|⟨q1,q2⟩
  .exact .inr h7
  .exact e.own _ ⟨id,en,g,q1,k2,q2,rfl⟩
 .rw[CM];split
  .rename_i hu;obtain⟨rfl,hu⟩:=hu;rw[h1 (by rw[<-hf.len];exact hu)];exact .bx S1.length 0 ⟨b,0,0⟩ oU
  .exact lE (hf.rel u)
theorem Inv.settle{w0:World}{S0:A1}{ops:Array Oper}{xs:List Nat}{KA:Nat->A1}{fr0:List D}{ds:List Deferred}{p f t:Nat}{z:List D}{L:Array Bool}{a1:Act}{w1:World}{o:Oper}
  (h:Inv P dp F G w0 S0 ops xs KA fr0 Au ds p f t z false L a1 w1) (hp:xs[p]? = some f) (ho:ops.toList[f]? = some o) (Lp:o.dst=some t) (Er:KA (p+1)=.box z::KA p) (C7:Ah Au t=if t<Au.length then .bx (KA p).length 0 else .top)
  (U7:∀(j:Nat) (o:Oper),ops.toList[j]? = some o->o.dst=some t->j=f):Inv P dp F G w0 S0 ops xs KA fr0 Au ds p f t z true L a1 w1:=by
 obtain⟨h1,h2,h3,k,PN,F1,G1,hk,fW,k1,k2,k3,k4,k5,k6,k7,k8⟩:=h;have fX:=(gB.1 hp).1;have YO:f<ops.size:=by simpa using(gB.1 ho).1
 by_cases hc:L.getD f false=true/\k=p
 .obtain⟨hL,rfl⟩:=hc;obtain⟨_,hpd⟩:=k8 hL YO (le_refl _);obtain⟨G2,q1,q2,q3⟩:=hpd.attach k1 k2 k3;refine⟨h1,h2,h3,k+1,Bc PN t (.bx (KA k).length 0),F1,G2,fX,fun i x hx hi=>?_,by rw[Er];exact q1,by rw[Er];exact q2,q3,by rw[C6];exact k4,?_,?_,fun _ _=>hL,fun _ _ h=>by omega⟩
  .rw[fW i x hx hi];omega
  .intro j oj u hj _ yK hu;by_cases Rn:u=t
   .subst Rn;rw[CM,C7,k4];by_cases hl:u<Au.length
    .rw[if_pos ⟨rfl,hl⟩,if_pos hl]
    .rw[if_neg (fun h=>hl h.2),if_neg hl,OV _ _ (by rw[k4];omega)]
   .rw[CM,if_neg (fun h=>Rn h.1)];refine k5 j oj u hj (fun hh=>?_) yK hu;obtain⟨rfl,_⟩:=hh;rw[ho] at yK;injection yK with yK
    subst yK;rw[Lp] at hu;injection hu with hu
    exact Rn hu.symm
  .intro u hu;have Rn:u≠t:=fun e=>hu f o hL ho (by rw[e];exact Lp);rw[CM,if_neg (fun h=>Rn h.1)];exact k6 u hu
 .refine⟨h1,h2,h3,k,PN,F1,G1,hk,fW,k1,k2,k3,k4,k5,k6,k7,fun a b c=>⟨fun _=>?_,(k8 a b c).2⟩⟩;rcases lt_or_ge k p with q|q
  .exact q
  .exact absurd ⟨a,by omega⟩ hc
theorem Inv.full{w0:World}{S0:A1}{ops:Array Oper}{xs:List Nat}{KA:Nat->A1}{fr0:List D}{ds:List Deferred}{p f t:Nat}{z:List D}{L:Array Bool}{a1:Act}{w1:World}(hf:ops.size<=f)
  (h:Inv P dp F G w0 S0 ops xs KA fr0 Au ds p f t z false L a1 w1):Inv P dp F G w0 S0 ops xs KA fr0 Au ds p f t z true L a1 w1:=by
 obtain⟨h1,h2,h3,k,PN,F1,G1,hk,fW,k1,k2,k3,k4,k5,k6,k7,k8⟩:=h;exact⟨h1,h2,h3,k,PN,F1,G1,hk,fW,k1,k2,k3,k4,k5,k6,k7,fun _ b _=>by omega⟩
theorem UG{L:Array Bool}{j:Nat}(h:L.getD j true=false):j<L.size/\L.getD j false=false:=by
 rcases lt_or_ge j L.size with h'|h'
 .refine⟨h',?_⟩;simp[h'] at h ⊢;exact h
 .simp[Array.getElem?_eq_none h'] at h
theorem Cc{L:Array Bool}{i:Nat}(hi:i<L.size)(j:Nat)(b:Bool):(L.setIfInBounds i true).getD j b=if j=i then true else L.getD j b:=by
 by_cases h:j=i
 .subst h;simp[hi]
 .rw[if_neg h];simp[Array.getElem?_setIfInBounds_ne (Ne.symm h)]
structure Fl(ops:List Oper)(B xs:List Nat)(A:List (Nat×Nat×I))(p f t:Nat)(z:List D):Prop where
 chain:∀i x y,xs[i]? = some x->xs[i+1]? = some y->i≠p->i+1≠p->PV B x y=true
 cross:∀x y,0<p->xs[p-1]? = some x->xs[p+1]? = some y->PV B x y=true
 next:∀y,xs[p+1]? = some y->PV B f y=true
 here:∀x,xs[p]? = some x->x=f
 arm:(xs.length<=p/\ops.length<=f)\/(xs[p]? = some f/\(p,f,I.op (some t) none (.alloc z))∈A/\(∀(j:Nat) (o:Oper),ops[j]? = some o->o.dst=some t->j=f)/\∀q∈A,q.2.1=f\/t∉usO q.2.2\/(VA q.2.2=true/\p<q.1))
theorem tZ{ops:List Oper}{B xs:List Nat}{A:List (Nat×Nat×I)}(h:(match brk B 0 xs with
  |none=>true
  |some p=>MH B (xs.eraseIdx p)&&(match qb A p with | some (f,t)=>flOk ops B xs A p f t | none=>false))=true):∃p f t z,(brk B 0 xs).getD xs.length=p/\Fl ops B xs A p f t z:=by
 cases hb:brk B 0 xs with
 |none=>
  have hc:=Yr hb;refine⟨xs.length,ops.length,0,[],rfl,fun i x y h1 h2 _ _=>Kt hc h1 h2,fun x y _ _ h2=>?_,fun y h2=>?_,fun x h2=>?_,.inl ⟨le_refl _,le_refl _⟩⟩
  .rw[List.getElem?_eq_none (by omega)] at h2;cases h2
  .rw[List.getElem?_eq_none (by omega)] at h2;cases h2
  .rw[List.getElem?_eq_none (by omega)] at h2;cases h2
 |some p=>
  rw[hb] at h;simp only[and_eq_true] at h;obtain⟨hc,h⟩:=h;split at h
  .rename_i f t KR;simp only[flOk,and_eq_true,decide_eq_true_eq,beq_iff_eq] at h;obtain⟨⟨⟨⟨⟨h1,h2⟩,h3⟩,h4⟩,h5⟩,h6⟩:=h;have hpf:xs[p]? = some f:=by rw[gA h1];rw[gD,gA h1] at h2;simpa using h2
   obtain⟨⟨k,j,i⟩,hq,h7⟩:=List.any_eq_true.1 h4;simp only[and_eq_true,beq_iff_eq] at h7;obtain⟨⟨rfl,rfl⟩,h8⟩:=h7
   obtain⟨z,rfl⟩:∃z,i=I.op (some t) none (.alloc z):=by
    unfold K6 at h8;split at h8
    .rename_i u z;injection h8 with h8
     subst h8;exact⟨z,rfl⟩
    .cases h8
   refine⟨k,j,t,z,rfl,fun i x y h1 h2 n1 n2=>?_,fun x y h0 h1 h2=>?_,fun y hy=>?_,fun x hx=>?_,.inr ⟨hpf,hq,fun q o ho hd=>?_,fun q hq=>?_⟩⟩
   .rcases lt_or_ge i k with q|q
    .have e1:(xs.eraseIdx k)[i]? = some x:=by rw[List.getElem?_eraseIdx_of_lt q];exact h1
     have e2:(xs.eraseIdx k)[i+1]? = some y:=by rw[List.getElem?_eraseIdx_of_lt (by omega)];exact h2
     exact Kt hc e1 e2
    .obtain⟨m,rfl⟩:∃m,i=m+1:=⟨i-1,by omega⟩
     have e1:(xs.eraseIdx k)[m]? = some x:=by rw[List.getElem?_eraseIdx_of_ge (by omega)];exact h1
     have e2:(xs.eraseIdx k)[m+1]? = some y:=by rw[List.getElem?_eraseIdx_of_ge (by omega)];exact h2
     exact Kt hc e1 e2
   .obtain⟨m,rfl⟩:∃m,k=m+1:=⟨k-1,by omega⟩
    have e1:(xs.eraseIdx (m+1))[m]? = some x:=by rw[List.getElem?_eraseIdx_of_lt (by omega)];exact h1
    have e2:(xs.eraseIdx (m+1))[m+1]? = some y:=by rw[List.getElem?_eraseIdx_of_ge (by omega)];exact h2
    exact Kt hc e1 e2
   .rw[hy] at h3;exact h3
   .rw[hpf] at hx;injection hx with hx;exact hx.symm
   .have hz:(o,q)∈ops.zipIdx:=by rw[List.mem_iff_getElem?];refine⟨q,?_⟩;simp[getElem?_zipIdx,ho]
    have:=List.all_eq_true.1 h5 (o,q) hz;simp[hd] at this;exact this
   .have:=List.all_eq_true.1 h6 q hq;simp only[or_eq_true,beq_iff_eq,Bool.not_eq_true',and_eq_true,decide_eq_true_eq] at this;rcases this with(h|h)|h
    .exact .inl h
    .exact .inr (.inl fun hm=>by rw[List.contains_iff_mem.2 hm] at h;cases h)
    .exact .inr (.inr h)
  .cases h
theorem Vx{id:Nat}{ops:Array Oper}{is:List (Nat×I)}{Q:Exit->Act->World->Prop}(Js:P.follows .mixedOrders=true)(hc:Ez P dp cf)(J0:Lg P dp)(hm:mDr P dp ops.toList is=true)
  (he:GX cf fr S (Kr is)=some (Au,S')) (hs:BX dp F G w S) (hf:Fr dp F G w a fr)
  (hQ:∀a' w' F' G',BX dp F' G' w' S'->Ext F G w S F' G' w' S'->Fr dp F' G' w' a' Au->a'.defers=a.defers->Q .normal a' w'):(Code.region id ops true).wp P Q a w:=by
 simp only[mDr,and_eq_true,all_eq_true] at hm;obtain⟨⟨⟨⟨⟨⟨YG,hsep⟩,huses⟩,hedges⟩,UZ⟩,hchain⟩,hcov⟩:=hm
 have hasop:∀q∈is,J6 q.2≠none/\oC q.2=true:=by
  intro q hq;obtain⟨h1,h2⟩:=YG q hq;refine⟨fun hn=>?_,h2⟩;unfold JZ at h1;split at h1
  .rw[hn] at h1;cases h1
  .cases h1
 obtain⟨hlen,oT,KA,e0,em,Vf⟩:=trace is he hsep hasop;obtain⟨p,f,t,z,hpbrk,KR⟩:=tZ hchain;rw[hpbrk] at hcov
 have item:∀k j i,(k,j,i)∈xw 0 is->JZ P dp ops.toList j i=true/\∃pre post JI,jI ops.toList (Ju ops.toList []) pre j i post=true/\is=pre++(j,i)::post /\
   (∀u,H4 u pre=true->Ah JI u=Ah fr u)/\(∀u,H4 u ((j,i)::post)=true->Ah JI u=Ah Au u)/\ay cf JI Au (KA k) (KA (k+if VA i then 1 else 0)) i:=by
  intro k j i h;obtain⟨pre,post,h1,h2⟩:=X6 h;rw[zero_add] at h2;subst h2;obtain⟨JI,a1,a2,a3,a4⟩:=Vf pre j i post h1;have:=Tg huses pre j i post h1;exact⟨(YG (j,i) (by rw[h1];simp)).1,pre,post,JI,by simpa using this,h1,a2,a3,a4⟩
 have lF:∀u,(∀(q:Nat) (oq:Oper),ops.toList[q]? = some oq->oq.dst≠some u)->∀q∈is,UM q.2≠some u:=by
  intro u OC q hq hd;have h1:=(YG q hq).1;unfold JZ at h1;split at h1
  .rename_i o ho;split at h1
   .rename_i dst gd r PM;simp only[mI,and_eq_true] at h1;have aZ:=h1.1.1;cases Qv:q.2 with
    |op fV gd' r'=>
     rw[Qv] at PM hd;simp only[J6,Option.some.injEq,Prod.mk.injEq] at PM;simp only[UM] at hd;rw[<-PM.1,hd] at aZ;unfold Zt at aZ;split at aZ
     .rename_i e;cases e
     .rename_i u v e1 e2;injection e2 with e2
      subst e2;simp only[beq_iff_eq] at aZ;subst aZ;exact OC _ o ho e1
     .cases aZ
    |fz u=>rw[Qv] at PM;simp[J6] at PM
    |ck u r'=>rw[Qv] at hd;simp[UM] at hd
   .cases h1
  .cases h1
 obtain⟨hs1,hx1,hf1⟩:=hs.drew hf
 have hedge:∀(j:Nat) (o:Oper) (e:Edge),ops.toList[j]? = some o->e∈o.after.toList->Region.binds .any e=true->e.on<j:=by
  intro j o e ho hE hb
  have h1:=(List.all_eq_true.1 hedges) (o,j) (by
   rw[List.mem_iff_getElem?];refine⟨j,?_⟩;simp[getElem?_zipIdx] at ho ⊢
   exact ho)
  have h2:=List.all_eq_true.1 h1 e hE;simpa[hb] using h2
 have settle:∀(L:Array Bool) (a1:Act) (w1:World),Inv P dp F G w S ops (GY is) KA fr Au a.defers p f t z false L a1 w1->Inv P dp F G w S ops (GY is) KA fr Au a.defers p f t z true L a1 w1:=by
  intro L a1 w1 hI;rcases KR.arm with⟨_,h⟩|⟨hp,hA,U7,_⟩
  .exact hI.full (by simpa using h)
  .obtain⟨Ua,pre,post,JI,oV,xN,U8,Vg,hh⟩:=item p f _ hA;unfold JZ at Ua;split at Ua
   .rename_i o ho;simp only[J6,mI,and_eq_true] at Ua
    have OD:o.dst=some t:=by
     have h1:=Ua.1.1;unfold Zt at h1;split at h1
     .rename_i e;cases e
     .rename_i u v e1 e2;injection e2 with e2;subst e2;simp only[beq_iff_eq] at h1;subst h1;exact e1
     .cases h1
    obtain⟨b,h1,h2,_⟩:=hh (some t) none (.alloc z) rfl;simp only[DE.wanted,Option.some.injEq] at h1;obtain⟨d,h4,h5⟩:=h2 h1.symm;simp only[E7,Option.some.injEq,Prod.mk.injEq,VA,kdR,if_true] at h4;obtain⟨rfl,h4⟩:=h4;exact hI.settle hp ho OD h4.symm (h5 t rfl) U7
   .cases Ua
 have main:∀(fuel:Nat) (L:Array Bool) (a1:Act) (w1:World),(List.range ops.size).countP (fun j=>!L.getD j true)<=fuel->Inv P dp F G w S ops (GY is) KA fr Au a.defers p f t z true L a1 w1->wpAny P .any ops Q fuel L a1 w1:=by
  have done:∀(L:Array Bool) (a1:Act) (w1:World),Inv P dp F G w S ops (GY is) KA fr Au a.defers p f t z true L a1 w1->Region.ready .any ops L=[]->Q .normal a1 w1:=by
   intro L a1 w1 hI hr
   have all:∀n j,j<=n->j<ops.size->L.getD j false=true:=by
    intro n
    induction n with
    |zero=>
     intro j hj Ap;have hj0:j=0:=by omega
     subst hj0;rcases Bool.eq_false_or_eq_true (L.getD 0 true) with h|h
     .have:0<L.size:=by rw[hI.size];exact Ap
      simp[this] at h ⊢;exact h
     .exfalso
      have:0∈Region.ready .any ops L:=mem_ready.2 ⟨h,ops[0],getElem?_eq_getElem Ap,fun e he hb=>by
       have:=hedge 0 ops[0] e (by simp[Ap]) (by simpa using he) hb
       omega⟩
      rw[hr] at this;cases this
    |succ n ih=>
     intro j hj Ap;rcases Bool.eq_false_or_eq_true (L.getD j true) with h|h
     .have:j<L.size:=by rw[hI.size];exact Ap
      simp[this] at h ⊢;exact h
     .exfalso
      have:j∈Region.ready .any ops L:=mem_ready.2 ⟨h,ops[j],getElem?_eq_getElem Ap,fun e he hb=>by
       have:=hedge j ops[j] e (by simp[Ap]) (by simpa using he) hb
       exact ih e.on (by omega) (by omega)⟩
      rw[hr] at this;cases this
   obtain⟨k,PN,F1,G1,hk,fW,k1,k2,k3,k4,k5,k6,k7,k8⟩:=hI.st
   have hkm:k=(GY is).length:=by
    rcases lt_or_ge k (GY is).length with h|h
    .exfalso;have Lc:=gA h
     have Ap:(GY is)[k]<ops.size:=by
      have UY:∀(l:List (Nat×I)) (x:Nat),x∈GY l->∃i,(x,i)∈l:=by
       intro l
       induction l with
       |nil=>intro x h;simp[GY] at h
       |cons q l ih=>
        intro x h;simp only[GY] at h;split at h
        .rcases List.mem_cons.1 h with h|h
         .exact⟨q.2,by rw[h];simp⟩
         .obtain⟨i,hi⟩:=ih x h;exact⟨i,by simp[hi]⟩
        .obtain⟨i,hi⟩:=ih x h;exact⟨i,by simp[hi]⟩
      obtain⟨i,hi⟩:=UY is _ (List.getElem_mem h);have h1:=(YG _ hi).1;unfold JZ at h1;split at h1
      .rename_i o ho;have:=(gB.1 ho).1;simpa using this
      .cases h1
     by_cases hkp:k=p
     .subst hkp;have hf':=KR.here _ Lc;rw[hf'] at Ap;have:=(k8 (all _ _ (le_refl _) Ap) Ap (le_refl _)).1 rfl;omega
     .have:=(fW k _ Lc hkp).1 (all _ _ (le_refl _) Ap);omega
    .omega
   have hnf:∀(j:Nat) (o:Oper),ops.toList[j]? = some o->¬(j=f/\k<=p):=by
    rintro j o ho ⟨rfl,hkp⟩;rcases KR.arm with⟨_,h⟩|⟨hp,_⟩
    .have:=(gB.1 ho).1;omega
    .have:=(gB.1 hp).1;omega
   rw[hkm,bf,em] at k1 k2;refine hQ a1 w1 F1 G1 k1 k2 ⟨by rw[<-k4];exact k3.len,fun t=>?_⟩ hI.defers
   have hfin:Ah PN t=Ah Au t:=by
    by_cases hex:∃(j:Nat) (o:Oper),L.getD j false=true/\ops.toList[j]? = some o/\o.dst=some t
    .obtain⟨j,o,h1,h2,h3⟩:=hex;exact k5 j o t h1 (hnf j o h2) h2 h3
    .have OC:∀(j:Nat) (o:Oper),ops.toList[j]? = some o->o.dst≠some t:=by
      intro j o h2 h3;have Ap:j<ops.size:=by simpa using(gB.1 h2).1
      exact hex ⟨j,o,all _ _ (le_refl _) Ap,h2,h3⟩
     rw[k6 t fun j o _ h2=>OC j o h2];exact(oT t (lF t OC)).symm
   rw[<-hfin];exact k3.rel t
  intro fuel
  induction fuel with
  |zero=>
   intro L a1 w1 hcnt hI
   have hr:Region.ready .any ops L=[]:=by rw[List.eq_nil_iff_forall_not_mem];intro j hj;obtain⟨h1,o,ho,_⟩:=mem_ready.1 hj;have Ap:j<ops.size:=(Array.getElem?_eq_some_iff.1 ho).1;have:0<(List.range ops.size).countP (fun j=>!L.getD j true):=List.countP_pos_iff.2 ⟨j,List.mem_range.2 Ap,by rw[h1];rfl⟩;omega
   exact⟨hr,done L a1 w1 hI hr⟩
  |succ fuel ih=>
   intro L a1 w1 hcnt hI;refine⟨done L a1 w1 hI,fun j hj=>?_⟩;obtain⟨hjun,oj,yK,hjed⟩:=mem_ready.1 hj;obtain⟨lG,hjf⟩:=UG hjun;have Ap:j<ops.size:=(Array.getElem?_eq_some_iff.1 yK).1;have YH:ops.toList[j]? = some oj:=by simpa using yK
   have xO:∀q,PV (Ju ops.toList []) q j=true->L.getD q false=true:=fun q hq=>
    (TE hq).closed (L:=fun q=>L.getD q false=true) hI.closed fun o e h1 h2 h3=>by
     rw[YH] at h1;injection h1 with h1;subst h1
     exact hjed e (by simpa using h2) h3
   have hcnt':(List.range ops.size).countP (fun q=>!(L.setIfInBounds j true).getD q true)<=fuel:=by
    have:=aL (l:=List.range ops.size) (x:=j) (p:=fun q=>!L.getD q true) (p':=fun q=>!(L.setIfInBounds j true).getD q true) (fun y _ hy=>by
     simp only[Cc lG] at hy;split at hy
     .cases hy
     .exact hy) (List.mem_range.2 Ap) (by simp only[hjun];rfl) (by simp[Cc lG])
    omega
   obtain⟨k,PN,F1,G1,hk,fW,k1,k2,k3,k4,k5,k6,k7,k8⟩:=hI.st;by_cases oW:j=f
   ·
    subst oW;rcases KR.arm with⟨_,h⟩|⟨hp,hA,U7,_⟩
    .have:ops.toList.length=ops.size:=by simp
     omega
    .have fX:=(gB.1 hp).1
     have hkp:k<=p:=by
      rcases lt_or_ge p k with q|q
      .have:=k7 q fX;rw[hjf] at this;cases this
      .exact q
     obtain⟨Ua,_⟩:=item p j _ hA;unfold JZ at Ua;rw[YH] at Ua;simp only[J6,mI,and_eq_true] at Ua;obtain⟨⟨PO,aZ⟩,hd3⟩:=Ua
     have OD:oj.dst=some t:=by
      unfold Zt at PO;split at PO
      .rename_i e;cases e
      .rename_i u v e1 e2;injection e2 with e2;subst e2;simp only[beq_iff_eq] at PO;subst PO;exact e1
      .cases PO
     have hw1:=O9 (b:=true) aZ k3 rfl;simp only[mR] at hd3;split at hd3
     .rename_i T ho;have hz:=hd3;unfold mZ at hz;split at hz
      .rename_i ti hti;split at hz
       .rename_i v hv;simp only[and_eq_true,all_eq_true] at hz;have hg:=Bs w1 (.cells v.cells T (0,0))
        have hsx:BX dp F1 G1 (w1.alloc (.cells v.cells T (0,0))) (KA k)/\Ext F1 G1 w1 (KA k) F1 G1 (w1.alloc (.cells v.cells T (0,0))) (KA k):=
         k1.step (fun _=>False) k1.len (fun _ _ h=>h) (fun _ _ h=>h) (fun b o hF=>hg.cell (k1.Ht hF)) (fun _ _ h=>.inl h) (fun b hb _=>by rw[hg.heap,Array.getElem?_push_lt hb,getElem?_eq_getElem hb])
          (fun _ h=>h.elim) (fun id e g h1 h2=>.inr (.inl ⟨h1,h2,fun h=>h⟩)) (by rw[hg.heap];simp) hg.os hg.tape hg.output
        unfold wpOp;rw[yK];dsimp only;rw[hw1];simp only[if_true];refine .inl ?_
        have hex:(execOp a1.eval oj).run P w1=.ok (.value (.pointer (some ⟨w1.heap.size,0,none⟩))) (w1.alloc (.cells v.cells T (0,0))):=by simp only[execOp,ho,Instr.alloc,zeroValue,typeInfo,hti,hv,newVar,newRow,Sem.run_bind,run_program,Sem.run_pure,Result.andThen,run_newObj_alloc]
        simp only[Oper.wp,hex,Oper.upon];refine ih _ _ _ hcnt' (settle _ _ _ ?_);refine⟨by simp[hI.size],fun q o e h1 h2 h3 h4=>?_,by rw[put_defers];exact hI.defers,k,Bc PN t .top,F1,G1,hk,fun i x hx hi=>?_,hsx.1,k2.trans hsx.2,?_,by rw[C6];exact k4,?_,?_,?_,?_⟩
        .rw[Cc lG] at h1 ⊢;split
         .rfl
         .split at h1
          .rename_i hqj;subst hqj;rw[YH] at h2;injection h2 with h2;subst h2
           exact hjed e (by simpa using h3) h4
          .exact hI.closed q o e h1 h2 h3 h4
        .rw[Cc lG,<-fW i x hx hi];have:x≠j:=cw UZ hx hp hi;simp[this]
        .rw[OD];exact(k3.ext hsx.2).put (some t) (.top _)
        .intro q o u h1 h2 h3 h4;have hqj:q≠j:=fun e=>h2 ⟨e,hkp⟩;rw[Cc lG,if_neg hqj] at h1;have Rn:u≠t:=fun e=>hqj (U7 q o h3 (by rw[h4,e]));rw[CM,if_neg (fun h=>Rn h.1)];exact k5 q o u h1 (fun h=>hqj h.1) h3 h4
        .intro u hu;have Rn:u≠t:=fun e=>hu j oj (by rw[Cc lG];simp) YH (by rw[OD,e]);rw[CM,if_neg (fun h=>Rn h.1)];refine k6 u fun q o h1 h2=>hu q o ?_ h2;rw[Cc lG];split
         .rfl
         .exact h1
        .intro h1 _;omega
        .intro _ _ _;refine⟨(fun h=>nomatch h),?_,w1.heap.size,v.cells,T,fun hl=>?_,hg.new,hz.1,hz.2,fun o ho=>?_,?_,k2.size,fun q hq heq=>by have:=(k1.YA q hq).2.1;omega⟩
         .rw[CM];split
          .rfl
          .rename_i h;exact OV _ _ (by have:¬t<PN.length:=fun q=>h ⟨rfl,q⟩;omega)
         .rw[OD] at hl ⊢;simp only[Act.put,Array.size_setIfInBounds] at hl;simp[Act.put,hl]
         .have:=k1.Ht ho;omega
         .rintro⟨id,e,g,h1,h2,h3,h4⟩;have:=k1.lt h1 h3 h2;omega
       .cases hz
      .cases hz
     .cases hd3
   have hord:∀k',k<=k'->(k'<=p\/p<k)->∀q,¬(q=f/\k'<=p)->¬(q=f/\k<=p):=by intro k' h1 h2 q h3 h4;exact h3 ⟨h4.1,by have:=h4.2;omega⟩
   have xP:∀(k0 k':Nat) (i:I) (pre post:List (Nat×I)) (JI:List D),JZ P dp ops.toList j i=true->jI ops.toList (Ju ops.toList []) pre j i post=true->is=pre++(j,i)::post ->
     (∀u,H4 u pre=true->Ah JI u=Ah fr u)->(∀u,H4 u ((j,i)::post)=true->Ah JI u=Ah Au u)->k'<=(GY is).length->(∀(q x:Nat),(GY is)[q]? = some x->q≠p->((x=j\/L.getD x false=true)<->q<k'))->k<=k'->(k'<=p\/p<k)->(t∉usO i\/p<k\/ops.toList.length<=f) ->
     (∀dst gd r,J6 i=some (dst,gd,r)->∃b d,DE.wanted JI gd=some b/\((b=true/\E7 cf JI (KA k) r=some (d,KA k'))\/(b=false/\d=.AY []/\KA k'=KA k)) /\
      ∀t,dst=some t->Ah Au t=if t<Au.length then d else .top) ->
     wpOp P ops Q j (wpAny P .any ops Q fuel (L.setIfInBounds j true)) a1 w1:=by
    intro k0 k' i pre post JI Ua oV xN U8 Vg Qy pD hkk hpk htf U9;unfold JZ at Ua;rw[YH] at Ua;dsimp only at Ua;split at Ua
    .rename_i dst gd r PM;have hmI:=Ua;obtain⟨b,d,hw,hd,hfd⟩:=U9 dst gd r PM
     have xQ:∀u∈usG gd++usR r,Ah PN u=Ah JI u:=by
      intro u hu
      have hu':u∈usO i\/(∃t r',i=.ck t r'):=by
       cases i with
       |op fV gd' r'=>
        simp only[J6,Option.some.injEq,Prod.mk.injEq] at PM;obtain⟨rfl,rfl,rfl⟩:=PM;exact .inl hu
       |fz t=>simp[J6] at PM
       |ck t r'=>
        simp only[J6,Option.some.injEq,Prod.mk.injEq] at PM;obtain⟨rfl,rfl,rfl⟩:=PM;exact .inl (by simpa[usG,usO] using hu)
      have hu'':u∈usO i:=by
       rcases hu' with h|⟨t,r',rfl⟩
       .exact h
       .simp only[J6,Option.some.injEq,Prod.mk.injEq] at PM;obtain⟨rfl,rfl,rfl⟩:=PM;simpa[usG,usO] using hu
      have h1:=List.all_eq_true.1 oV u hu''
      have hzip:∀(q:Nat) (oq:Oper),ops.toList[q]? = some oq->(oq,q)∈ops.toList.zipIdx:=by intro q oq h2;rw[List.mem_iff_getElem?];refine⟨q,?_⟩;simp[getElem?_zipIdx] at h2 ⊢;exact h2
      simp only[or_eq_true,and_eq_true] at h1;rcases h1 with⟨OC,KQ⟩|⟨OC,KQ⟩
      .rw[Vg u OC];by_cases hex:∃(q:Nat) (oq:Oper),ops.toList[q]? = some oq/\oq.dst=some u
       .obtain⟨q,oq,h2,h3⟩:=hex;have h4:=List.all_eq_true.1 KQ (oq,q) (hzip q oq h2);simp only[h3,bne_self_eq_false,Bool.false_or] at h4;refine k5 q oq u (xO q h4) (fun hh=>?_) h2 h3;obtain⟨rfl,hkp⟩:=hh;rcases htf with h5|h5|h5
        .rcases KR.arm with⟨_,h6⟩|⟨hp,hA,U7,_⟩
         .have:=(gB.1 h2).1;omega
         .obtain⟨aa,_⟩:=item p q _ hA;unfold JZ at aa;rw[h2] at aa;simp only[J6,mI,and_eq_true] at aa;have PO:=aa.1.1;rw[h3] at PO;simp only[Zt,beq_iff_eq] at PO;subst PO;exact h5 hu''
        .omega
        .have:=(gB.1 h2).1;omega
       .have hno':∀(q:Nat) (oq:Oper),ops.toList[q]? = some oq->oq.dst≠some u:=fun q oq h2 h3=>hex ⟨q,oq,h2,h3⟩;rw[k6 u fun q oq _ h2=>hno' q oq h2];exact(oT u (lF u hno')).symm
      .rw[U8 u OC];refine k6 u fun q oq hq h2 h3=>?_;have h4:=List.all_eq_true.1 KQ (oq,q) (hzip q oq h2);simp only[h3,bne_self_eq_false,Bool.false_or] at h4;have:=(TE h4).closed (L:=fun q=>L.getD q false=true) hI.closed fun o e a1 a2 a3=>hI.closed q o e hq a1 a2 a3;rw[hjf] at this;cases this
     have xR:DE.wanted PN gd=some b:=by rw[<-hw];exact Vp fun t ht=>xQ t (by simp[ht])
     have PI:(b=true/\E7 cf PN (KA k) r=some (d,KA k'))\/(b=false/\d=.AY []/\KA k'=KA k):=by
      rcases hd with⟨h1,h2⟩|h
      .exact .inl ⟨h1,by rw[<-h2];exact nK fun t ht=>xQ t (by simp[ht])⟩
      .exact .inr h
     have OD:oj.dst=dst:=by
      simp only[mI,and_eq_true] at hmI;have h1:=hmI.1.1;unfold Zt at h1;split at h1
      .rename_i e;rw[e]
      .rename_i e;rw[e];simpa using h1
      .cases h1
     unfold wpOp;rw[yK];dsimp only;refine pP hc J0 hmI k1 k3 xR PI fun v w2 F2 G2 q1 q2 q3=>ih _ _ w2 hcnt' (settle _ _ _ ?_);refine⟨by simp[hI.size],fun q o e h1 h2 h3 h4=>?_,by rw[put_defers];exact hI.defers,k',GW PN dst d,F2,G2,Qy,?_,q1,k2.trans q2,q3,by rw[L0];exact k4,?_,?_,?_,?_⟩
     .rw[Cc lG] at h1 ⊢;split
      .rfl
      .split at h1
       .rename_i hqj;subst hqj;rw[YH] at h2;injection h2 with h2;subst h2
        exact hjed e (by simpa using h3) h4
       .exact hI.closed q o e h1 h2 h3 h4
     .intro q x hx hq;rw[<-pD q x hx hq,Cc lG];by_cases hxj:x=j
      .simp[hxj]
      .simp[hxj]
     .intro q o t h1 hqf h2 h3;rw[Cc lG] at h1;by_cases ht:dst=some t
      .rw[hfd t ht];subst ht;rw[Hs,k4]
      .rw[Jd _ _ _ _ ht];split at h1
       .rename_i hqj;subst hqj;rw[YH] at h2;injection h2 with h2;subst h2
        exact absurd (OD.symm.trans h3) ht
       .exact k5 q o t h1 (hord k' hkk hpk q hqf) h2 h3
     .intro t ht
      have CF:dst≠some t:=by intro h;exact ht j oj (by rw[Cc lG];simp) YH (OD.trans h)
      rw[Jd _ _ _ _ CF];refine k6 t fun q o h1 h2=>ht q o ?_ h2;rw[Cc lG];split
      .rfl
      .exact h1
     .intro h1 h2;rw[Cc lG];split
      .rfl
      .exact k7 (by omega) h2
     .intro h1 h2 h3;rw[Cc lG,if_neg (fun e=>oW e.symm)] at h1;obtain⟨_,hpd⟩:=k8 h1 h2 (by omega)
      have CF:oj.dst≠some t:=by
       intro h;rcases KR.arm with⟨_,h6⟩|⟨_,_,U7,_⟩
       .have:ops.toList.length=ops.size:=by simp
        omega
       .exact oW (U7 j oj YH h)
      exact⟨(fun h=>nomatch h),hpd.O7 q2 _ v d CF dst (by rw[<-OD];exact CF)⟩
    .cases Ua
   have hcj:=hcov j (List.mem_range.2 (by simpa using Ap));unfold covOk at hcj;simp only[or_eq_true] at hcj
   have still:∀(k0:Nat) (i:I),(k0,j,i)∈xw 0 is->VA i=false->(∀(p x:Nat),(GY is)[p]? = some x->x≠j) ->
     (∀JI dst gd r d,J6 i=some (dst,gd,r)->E7 cf JI (KA k0) r=some (d,KA k0)->E7 cf JI (KA k) r=some (d,KA k)) ->
     wpOp P ops Q j (wpAny P .any ops Q fuel (L.setIfInBounds j true)) a1 w1:=by
    intro k0 i Qz hx PJ hmove;obtain⟨Ua,pre,post,JI,oV,xN,U8,Vg,Vf⟩:=item k0 j i Qz;refine xP k0 k i pre post JI Ua oV xN U8 Vg hk (fun q x xS hq=>?_) (le_refl _) (by omega) ?_ fun dst gd r PM=>?_
    .rw[<-fW q x xS hq];simp[PJ q x xS]
    .rcases KR.arm with⟨_,h6⟩|⟨_,_,_,hus⟩
     .exact .inr (.inr h6)
     .rcases hus _ Qz with h6|h6|h6
      .exact absurd h6 oW
      .exact .inl h6
      .rw[hx] at h6;cases h6.1
    .obtain⟨b,h1,h2,h3⟩:=Vf dst gd r PM;simp only[hx,false_eq_true,if_false,add_zero] at h2 h3;cases b with
     |true=>
      obtain⟨d,h4,h5⟩:=h2 rfl;exact⟨true,d,h1,.inl ⟨rfl,hmove JI dst gd r d PM h4⟩,h5⟩
     |false=>exact⟨false,.AY [],h1,.inr ⟨rfl,rfl,rfl⟩,(h3 rfl).2⟩
   by_cases hx:∃q:Nat,(GY is)[q]? = some j
   .obtain⟨q0,hp⟩:=hx;have fX:=(gB.1 hp).1;have hqp:q0≠p:=fun e=>oW (KR.here _ (e▸hp));obtain⟨i,Qz,hxi⟩:=cL 0 hp;rw[zero_add] at Qz
    have hkp:k=q0:=by
     have h1:¬q0<k:=fun h=>by have:=(fW q0 j hp hqp).2 h;rw[hjf] at this;cases this
     rcases Nat.eq_zero_or_pos q0 with h0|h0
     .omega
     .have hlt':q0-1<(GY is).length:=by omega
      have hg:=gA hlt';by_cases xT:q0-1=p
      .have lC:(GY is)[p+1]? = some j:=by rw[<-xT,show q0-1+1=q0 by omega];exact hp
       have hLf:=xO _ (KR.next j lC)
       have YO:f<ops.size:=by
        rcases KR.arm with⟨h6,_⟩|⟨h6,hA,_⟩
        .omega
        .obtain⟨aa,_⟩:=item p f _ hA;unfold JZ at aa;split at aa
         .rename_i ho2;simpa using(gB.1 ho2).1
         .cases aa
       rcases lt_or_ge p k with q|q
       .omega
       .have hkp:=(k8 hLf YO q).1 rfl;exfalso;have YI:p-1<(GY is).length:=by omega
        have hg2:=gA YI;have:=(fW _ _ hg2 (by omega)).1 (xO _ (KR.cross _ j (by omega) hg2 lC));omega
      .have hb:=KR.chain (q0-1) _ _ hg (by rw[show q0-1+1=q0 by omega];exact hp) xT (by omega);have:=(fW _ _ hg xT).1 (xO _ hb);omega
    subst hkp;obtain⟨Ua,pre,post,JI,oV,xN,U8,Vg,hhold'⟩:=item k j i Qz;refine xP k (k+1) i pre post JI Ua oV xN U8 Vg fX (fun q x hq hqp'=>?_) (Nat.le_succ _) (by omega) ?_ fun dst gd r PM=>?_
    .by_cases hqk:q=k
     .subst hqk;rw[hp] at hq;injection hq with hq
      simp[hq]
     .have CF:=cw UZ hq hp hqk;have:=fW q x hq hqp';simp only[CF,false_or];rw[this];omega
    .rcases KR.arm with⟨_,h6⟩|⟨_,_,_,hus⟩
     .exact .inr (.inr h6)
     .rcases hus _ Qz with h6|h6|h6
      .exact absurd h6 oW
      .exact .inl h6
      .exact .inr (.inl h6.2)
    .obtain⟨b,h1,h2,h3⟩:=hhold' dst gd r PM;simp only[hxi,if_true] at h2 h3;cases b with
     |true=>
      obtain⟨d,h4,h5⟩:=h2 rfl;exact⟨true,d,h1,.inl ⟨rfl,h4⟩,h5⟩
     |false=>exact⟨false,.AY [],h1,.inr ⟨rfl,rfl,(h3 rfl).1⟩,(h3 rfl).2⟩
   .have PJ:∀(p x:Nat),(GY is)[p]? = some x->x≠j:=fun p x h e=>hx ⟨p,by rw[h,e]⟩
    have notX:∀(k0:Nat) (i:I),(k0,j,i)∈xw 0 is->VA i=false:=by
     intro k0 i h;rcases Bool.eq_false_or_eq_true (VA i) with h1|h1
     .obtain⟨pre,post,h2,_⟩:=X6 h;exact(hx ⟨nX pre,sU h2 h1⟩).elim
     .exact h1
    rcases hcj with hcj|hcj
    .obtain⟨⟨k0,j',i⟩,Qz,h1⟩:=List.any_eq_true.1 hcj;simp only[and_eq_true,beq_iff_eq] at h1;obtain⟨rfl,h1⟩:=h1;have hni:=notX k0 i Qz;refine still k0 i Qz hni PJ fun JI dst gd r d PM U9=>?_;cases i with
     |op fV gd' r'=>
      simp only[J6,Option.some.injEq,Prod.mk.injEq] at PM;obtain⟨rfl,rfl,rfl⟩:=PM;simp only[or_eq_true] at h1;rcases h1 with h1|h1
      .exact evR_any h1 U9 (KA k)
      .have:VA (.op fV gd' r')=kdX r':=rfl;rw[this,h1] at hni;cases hni
     |fz t=>cases h1
     |ck t r'=>cases h1
    .have h1:=List.all_eq_true.1 hcj k (List.mem_range.2 (by omega));simp only[or_eq_true] at h1;rcases h1 with h1|h1
     .exfalso;obtain⟨⟨x,pp⟩,hxp,h2⟩:=List.any_eq_true.1 h1
      have Lc:(GY is)[pp]? = some x:=by obtain⟨q,hq⟩:=List.mem_iff_getElem?.1 hxp;simp[getElem?_zipIdx] at hq;obtain⟨y,hy,e1,e2⟩:=hq;rw[<-e2,<-e1];exact hy
      simp only[or_eq_true,and_eq_true,Bool.not_eq_true',decide_eq_false_iff_not,bne_iff_ne,ne_eq] at h2;rcases h2 with⟨⟨h2,h3⟩,h4⟩|⟨h2,h3⟩
      .exact h3 ((fW pp x Lc (by simpa using h4)).1 (xO x h2))
      .have hLx:L.getD x false=true:=by
        by_cases hpp:pp=p
        .subst hpp;rw[KR.here x Lc];exact k7 (by omega) (gB.1 Lc).1
        .exact(fW pp x Lc hpp).2 (by omega)
       have:=(TE h2).closed (L:=fun q=>L.getD q false=true) hI.closed fun o e a1 a2 a3=>hI.closed x o e hLx a1 a2 a3;rw[hjf] at this;cases this
     .obtain⟨⟨k0,j',i⟩,Qz,h2⟩:=List.any_eq_true.1 h1;simp only[and_eq_true,beq_iff_eq] at h2;obtain⟨⟨rfl,rfl⟩,_⟩:=h2;exact still k0 i Qz (notX k0 i Qz) PJ fun JI dst gd r d _ U9=>U9
 have hrep:∀j,(Array.replicate ops.size false).getD j false=false:=by intro j;by_cases h:j<ops.size<;>simp[h]
 refine wp_region_any Js (main ops.size _ a w.drew ?_ (settle _ _ _ ?_))
 .refine Nat.le_trans List.countP_le_length ?_;simp
 .refine⟨by simp,fun j o e h=>?_,rfl,0,fr,F,G,Nat.zero_le _,fun i x _ _=>?_,by rw[e0];exact hs1,by rw[e0];exact hx1,hf1,hlen.symm,fun j o t h=>?_,fun t _=>rfl,fun h=>by omega,fun h=>?_⟩
  .rw[hrep] at h;cases h
  .rw[hrep];simp
  .rw[hrep] at h;cases h
  .rw[hrep] at h;cases h
end
end
section
open Go
variable [Ga]
section
variable (P:Program)(dp:Nat->Option Fn)
def bq:List (Nat×I)->List (Nat×I)
 |[]=>[]
 |(j,i)::l=>match i with
  |.fz _=>bq l
  |i=>(j,i)::l
def mC:C->Code->Bool
 |.bad,_=>true
 |.skip,.skip=>true
 |.CN is _,.region _ ops false=>TY P dp ops.toList ops.toList is
 |.BB is _,.region _ ops true=>mDr P dp ops.toList (bq is)
 |.seq a b,.seq c d=>mC a c&&mC b d
 |.cond x a b,.cond y c d=>mA dp y x&&mC a c&&mC b d
 |.blk i a,.block j b=>i==j&&mC a b
 |.loop _ a,.loop b=>mC a b
 |.exit i,.exit j=>i==j
 |.ret,.ret=>true
 |_,_=>false
def Qr:List ResultVar->List om->Bool
 |[],[]=>true
 |.tmp t::l,.t n::m=>t==n&&Qr l m
 |.cell a t::l,.cell n k g::m=>a==n&&mT P t k g&&Qr l m
 |_,_=>false
def mFn(f:Fn):Bool:=match P.funcs[f.real]? with
 |some fn=>fn.name != "runtime.NumGoroutine" && fn.ntmps==f.nt&&Qr P fn.results.toList f.res&&(match fn.body with|some c=>mC P dp f.body c|none=>false)
 |none=>false
def Good:Prop:=∀g f,dp g=some f->mFn P dp f=true
end
section
variable {P:Program}{dp:Nat->Option Fn}{F F':GD}{G G':List Gh}{w w':World}{S S':A1}{a:Act}{fr Au:List D}{o:Oper}{d:D}{cf:AQ}
theorem Good.enter(h:Good P dp):Lg P dp:=by
 intro g f hg;have hm:=h g f hg;unfold mFn at hm;split at hm
 .rename_i fn hfn;simp only[and_eq_true,bne_iff_ne,ne_eq] at hm;refine⟨fn,hfn,by simpa using hm.1.1.1,?_⟩;have:=hm.2;split at this
  .rename_i c hc;simp[hc]
  .cases this
 .cases hm
def wg:Ex->Exit
 |.normal=>.normal
 |.exit id=>.exit id
 |.ret=>.ret
theorem lW{c:Code}{Q:Exit->Act->World->Prop}(J:Nat->Act->World->Prop)(round:∀n a w,J n a w->c.wp P (Exit.then (fun a' w'=>∃m,m<n/\J m a' w') Q) a w) :
  ∀(n:Nat) (a:Act) (w:World),J n a w->(Code.loop c).wp P Q a w:=by
 have key:∀n a w,J n a w->∀(b:Frame) (k:List Item) (cs:List Frame),∃e a' w',Q e a' w'/\Arrives P (lone (b.at a (.code c::.inLoop c::k)) cs w) b k cs e a' w':=by
  intro n
  induction n using Nat.strongRecOn with
  |_ n ih=>
   intro a w hI b k cs;obtain⟨e,a₁,w₁,hq,Ub⟩:=round n a w hI b (.inLoop c::k) cs;cases e with
   |normal=>
    obtain⟨m,Ap,hI₁⟩:=hq;obtain⟨e₂,a₂,w₂,hq₂,Ub₂⟩:=ih m Ap a₁ w₁ hI₁ b k cs;exact⟨e₂,a₂,w₂,hq₂,.of_steps (Steps.trans Ub (.one step_inLoop)) Ub₂⟩
   |exit id=>exact⟨_,a₁,w₁,hq,.pass (x:=.inLoop c) rfl (fun _ _=>.inl (by simp)) Ub⟩
   |goto l=>exact⟨_,a₁,w₁,hq,.pass (x:=.inLoop c) rfl (fun _ _=>.inl (by simp)) Ub⟩
   |ret=>exact⟨_,a₁,w₁,hq,.pass (x:=.inLoop c) rfl (fun _ _=>.inl (by simp)) Ub⟩
   |panic ch=>exact⟨_,a₁,w₁,hq,.pass (x:=.inLoop c) rfl (fun _ _=>.inl (by simp)) Ub⟩
   |outgrown=>exact⟨_,a₁,w₁,hq,.pass (x:=.inLoop c) rfl (fun _ _=>.inl (by simp)) Ub⟩
 intro n a w h b k cs;obtain⟨e,a',w',hq,Ub⟩:=key n a w h b k cs;exact⟨e,a',w',hq,.of_steps (.one step_loop) Ub⟩
theorem Tt{id:Nat}{ops:Array Oper}{Q:Exit->Act->World->Prop}(Js:P.follows .mixedOrders=true)(hc:Ez P dp cf)(J0:Lg P dp):∀(is:List (Nat×I)) {F:GD} {fr:List D} {S:A1},mDr P dp ops.toList (bq is)=true ->
  GX cf fr S (Kr is)=some (Au,S')->BX dp F G w S->Fr dp F G w a fr ->
  (∀a' w' F' G',BX dp F' G' w' S'->Ext F G w S F' G' w' S'->Fr dp F' G' w' a' Au->a'.defers=a.defers->Q .normal a' w')->(Code.region id ops true).wp P Q a w
 |[],F,fr,S,hm,he,hs,hf,hQ=>Vx Js hc J0 hm he hs hf hQ
 |(j,.op dst gd r)::l,F,fr,S,hm,he,hs,hf,hQ=>Vx Js hc J0 hm he hs hf hQ
 |(j,.ck t r)::l,F,fr,S,hm,he,hs,hf,hQ=>Vx Js hc J0 hm he hs hf hQ
 |(j,.fz t)::l,F,fr,S,hm,he,hs,hf,hQ=>by
  simp only[Kr,GX,Mv] at he;cases hz:Lr (Ah fr t) S with
  |none=>simp[hz] at he
  |some p=>
   simp only[hz,map_some] at he;obtain⟨F1,k1,k2,k3⟩:=ok_fz hs hf hz;exact Tt Js hc J0 l hm he k1 k3 fun a' w' F' G' q1 q2 q3 q4=>hQ a' w' F' G' q1 (k2.trans q2) q3 q4
def Py(P:Program)(dp:Nat->Option Fn):Prop:=
 ∀g f args S r S',dp g=some f->Bb (call (Ky dp)) f args S=some (r,S')->∀F G w vs,BX dp F G w S->LI dp F G w vs args ->
  ∀R:Ending->World->Prop,(∀v w' F' G',BX dp F' G' w' S'->Ext F G w S F' G' w' S'->Rel dp F' G' w' v r->R (.returned v) w')->Calls P f.real vs w R
theorem Py.of_no(h:∀g f,dp g=some f->f.np<1000):Py P dp:=by intro g f args S r S' hg he;have:=h g f hg;unfold Bb at he;rw[if_neg (by omega),if_neg (by omega),if_neg (by omega),if_neg (by omega),if_neg (by omega),if_neg (by omega)] at he;cases he
theorem Gb(Js:P.follows .mixedOrders=true)(hc:Ez P dp cf)(J0:Lg P dp)(n:Nat):∀(c:C) (code:Code),mC P dp c code=true->∀{fr S ex Au S'},exec cf n c fr S=some (ex,Au,S') ->
  ∀ ⦃F G w a Q⦄,BX dp F G w S->Fr dp F G w a fr ->
   (∀a' w' F' G',BX dp F' G' w' S'->Ext F G w S F' G' w' S'->Fr dp F' G' w' a' Au->a'.defers=a.defers->Q (wg ex) a' w')->code.wp P Q a w
 |.bad,_,_,_,_,_,_,_,he=>by cases he
 |.skip,code,hm,fr,S,ex,Au,S',he=>by
  intro F G w a Q hs hf hQ;cases code<;>simp only[mC] at hm<;>try (cases hm;done)
  simp only[exec,Option.some.injEq,Prod.mk.injEq] at he;obtain⟨rfl,rfl,rfl⟩:=he;exact _root_.Go.wp_skip (hQ a w F G hs (Ext.refl _ _ _ _) hf rfl)
 |.CN is kl,code,hm,fr,S,ex,Au,S',he=>by
  intro F G w a Q hs hf hQ
  obtain⟨id,ops,rfl⟩:∃id ops,code=.region id ops false:=by
   cases code
   case region id ops draw=>
    cases draw
    .exact⟨id,ops,rfl⟩
    .simp[mC] at hm
   all_goals (simp[mC] at hm)
  simp only[mC] at hm;simp only[exec] at he;split at he
  .rename_i aY S1 U9;simp only[Option.some.injEq,Prod.mk.injEq] at he;obtain⟨rfl,rfl,rfl⟩:=he;exact wp_region_list (fF hc J0 is _ hm U9 hs hf fun a' w' F' G' k1 k2 k3 k4=>hQ a' w' F' G' k1 k2 (k3.kill kl) k4)
  .cases he
 |.BB is kl,code,hm,fr,S,ex,Au,S',he=>by
  intro F G w a Q hs hf hQ
  obtain⟨id,ops,rfl⟩:∃id ops,code=.region id ops true:=by
   cases code
   case region id ops draw=>
    cases draw
    .simp[mC] at hm
    .exact⟨id,ops,rfl⟩
   all_goals (simp[mC] at hm)
  simp only[mC] at hm;simp only[exec] at he;split at he
  .rename_i aY S1 U9;simp only[Option.some.injEq,Prod.mk.injEq] at he;obtain⟨rfl,rfl,rfl⟩:=he;exact Tt Js hc J0 is hm U9 hs hf fun a' w' F' G' k1 k2 k3 k4=>hQ a' w' F' G' k1 k2 (k3.kill kl) k4
  .cases he
 |.seq x y,code,hm,fr,S,ex,Au,S',he=>by
  intro F G w a Q hs hf hQ;cases code<;>simp only[mC,and_eq_true] at hm<;>try (cases hm;done)
  rename_i x' y';refine wp_seq ?_;simp only[exec] at he;split at he
  .rename_i aY S1 U9;refine Gb Js hc J0 n x x' hm.1 U9 hs hf fun a' w' F' G' k1 k2 k3 k4=>?_;exact Gb Js hc J0 n y y' hm.2 he k1 k3 fun a'' w'' F'' G'' q1 q2 q3 q4=>hQ a'' w'' F'' G'' q1 (k2.trans q2) q3 (q4.trans k4)
  .rename_i OC;refine Gb Js hc J0 n x x' hm.1 he hs hf fun a' w' F' G' k1 k2 k3 k4=>?_;have:=hQ a' w' F' G' k1 k2 k3 k4;cases ex with
   |normal=>exact(OC Au S' he).elim
   |exit id=>exact this
   |ret=>exact this
 |.cond q x y,code,hm,fr,S,ex,Au,S',he=>by
  intro F G w a Q hs hf hQ;cases code<;>simp only[mC,and_eq_true] at hm<;>try (cases hm;done)
  rename_i q' x' y';have hr:=hf.eval hm.1.1;simp only[exec] at he;split at he
  .rename_i heq;rw[heq] at hr;generalize hv:a.eval q'=v at hr;cases hr;exact wp_cond_true hv (Gb Js hc J0 n x x' hm.1.2 he hs hf hQ)
  .rename_i heq;rw[heq] at hr;generalize hv:a.eval q'=v at hr;cases hr;exact wp_cond_false hv (Gb Js hc J0 n y y' hm.2 he hs hf hQ)
  .cases he
 |.blk id x,code,hm,fr,S,ex,Au,S',he=>by
  intro F G w a Q hs hf hQ;cases code<;>simp only[mC,and_eq_true,beq_iff_eq] at hm<;>try (cases hm;done)
  rename_i pF x';obtain⟨rfl,hm⟩:=hm;refine wp_block ?_;simp only[exec] at he;split at he
  .rename_i j aY S1 U9;simp only[Option.some.injEq,Prod.mk.injEq] at he;obtain⟨rfl,rfl,rfl⟩:=he;refine Gb Js hc J0 n x x' hm U9 hs hf fun a' w' F' G' k1 k2 k3 k4=>?_;have:=hQ a' w' F' G' k1 k2 k3 k4;simp only[wg,Exit.inBlock];split<;>rename_i hj
   .rw[if_pos hj] at this;exact this
   .rw[if_neg hj] at this;exact this
  .rename_i OC;refine Gb Js hc J0 n x x' hm he hs hf fun a' w' F' G' k1 k2 k3 k4=>?_;have:=hQ a' w' F' G' k1 k2 k3 k4;cases ex with
   |normal=>exact this
   |exit j=>exact(OC j Au S' he).elim
   |ret=>exact this
 |.loop kl x,code,hm,fr,S,ex,Au,S',he=>by
  intro F G w a Q hs hf hQ;cases code<;>simp only[mC] at hm<;>try (cases hm;done)
  rename_i x';simp only[exec] at he
  refine lW (fun m a1 w1=>∃aY S1 F1 G1,iter (fun fr S=>exec cf n x (B7 fr kl) S) m aY S1=some (ex,Au,S')/\BX dp F1 G1 w1 S1/\Ext F G w S F1 G1 w1 S1/\Fr dp F1 G1 w1 a1 aY/\a1.defers=a.defers)
   (fun m a1 w1 hJ=>?_) n a w ⟨fr,S,F,G,he,hs,Ext.refl _ _ _ _,hf,rfl⟩
  obtain⟨aY,S1,F1,G1,hit,k1,k2,k3,k4⟩:=hJ;cases m with
  |zero=>cases hit
  |succ m=>
   simp only[iter] at hit;split at hit
   .rename_i fr2 S2 U9;refine Gb Js hc J0 n x x' hm U9 k1 (k3.kill kl) fun a2 w2 F2 G2 q1 q2 q3 q4=>?_;exact⟨m,Nat.lt_succ_self m,fr2,S2,F2,G2,hit,q1,k2.trans q2,q3,q4.trans k4⟩
   .rename_i OC;refine Gb Js hc J0 n x x' hm hit k1 (k3.kill kl) fun a2 w2 F2 G2 q1 q2 q3 q4=>?_;have:=hQ a2 w2 F2 G2 q1 (k2.trans q2) q3 (q4.trans k4);cases ex with
    |normal=>exact(OC Au S' hit).elim
    |exit j=>exact this
    |ret=>exact this
 |.exit id,code,hm,fr,S,ex,Au,S',he=>by
  intro F G w a Q hs hf hQ;cases code<;>simp only[mC,beq_iff_eq] at hm<;>try (cases hm;done)
  subst hm;simp only[exec,Option.some.injEq,Prod.mk.injEq] at he;obtain⟨rfl,rfl,rfl⟩:=he;exact _root_.Go.wp_exit (hQ a w F G hs (Ext.refl _ _ _ _) hf rfl)
 |.ret,code,hm,fr,S,ex,Au,S',he=>by
  intro F G w a Q hs hf hQ;cases code<;>simp only[mC] at hm<;>try (cases hm;done)
  simp only[exec,Option.some.injEq,Prod.mk.injEq] at he;obtain⟨rfl,rfl,rfl⟩:=he;exact _root_.Go.wp_ret (hQ a w F G hs (Ext.refl _ _ _ _) hf rfl)
theorem ld_var{t:TypeId}{k:Nat}{g:Bool}{v:Value}{id p:Nat}(hT:mT P t k g=true)(hs:BX dp F G w S)(hr:Rel dp F G w v (.bx id p))(he:AE S k g (.bx id p)=some d) :
  ∃ad u,v=.pointer (some ad)/\(loadVar t ad).run P w=.ok u w/\Rel dp F G w u d:=by
 cases hr with
 |bx _ _ gh hg=>
  simp only[AE] at he;split at he
  .rename_i cs K9;obtain⟨vs,T,hh,⟨hl,_⟩,_,_,hc⟩:=hs.aV id _ gh K9 hg
   have:=cV (P:=P) (dp:=dp) (F:=F) (G:=G) (w:=w) (cs:=cs) (k:=k) (off:=p) (g:=g) (t:=t) (blk:=gh.blk) (base:=0) (c:=fun m=>vs.getD m undef) hT (fun m e UW=>by
    have Ap:m<vs.size:=Nat.lt_of_lt_of_le (gB.1 UW).1 hl;have e1:vs[m]? = some (vs.getD m undef):=by simp[getD,Ap]
    exact⟨by rw[zero_add,Hh hh,e1],hc m _ e e1 UW⟩) he
   rw[zero_add] at this;obtain⟨u,hu,hru⟩:=this;exact⟨_,u,rfl,hu,hru⟩
  .cases he
def uD(a:Act):ResultVar->Sem Value
 |.tmp t=>pure (a.tmps.getD t undef)
 |.cell b t=>do loadVar t (<-asAddr (a.tmps.getD b undef))
theorem dN(fn:Func)(a:Act):results fn a.tmps=(do let vs <-fn.results.mapM (uD a);pure (if h:vs.size=1 then vs[0] else .tuple vs)):=by unfold results;congr 1
theorem ML(hs:BX dp F G w S)(hf:Fr dp F G w a fr):∀{rs:List ResultVar} {ms:List om} {l:List D},Qr P rs ms=true->Kg fr S ms=some l ->
  ∃vs:List Value,(rs.mapM (uD a)).run P w=.ok vs w/\vs.length=l.length /\
   ∀(j:Nat) (v:Value) (d:D),vs[j]? = some v->l[j]? = some d->Rel dp F G w v d
 |[],[],l,_,he=>by simp only[Kg,Option.some.injEq] at he;subst he;exact⟨[],rfl,rfl,fun j v d h=>by simp at h⟩
 |[],_::_,_,hm,_=>by simp[Qr] at hm
 |.tmp t::rs,[],_,hm,_=>by simp[Qr] at hm
 |.cell b t::rs,[],_,hm,_=>by simp[Qr] at hm
 |.tmp t::rs,.cell n k g::ms,_,hm,_=>by simp[Qr] at hm
 |.cell b t::rs,.t n::ms,_,hm,_=>by simp[Qr] at hm
 |.tmp t::rs,.t n::ms,l,hm,he=>by
  simp only[Qr,and_eq_true,beq_iff_eq] at hm;obtain⟨rfl,hm⟩:=hm;simp only[Kg,nS] at he;cases hr:Kg fr S ms with
  |none=>simp[hr] at he
  |some m=>
   simp only[hr,Option.some.injEq] at he;subst he;obtain⟨vs,h1,h2,h3⟩:=ML hs hf hm hr;refine⟨a.tmps.getD t undef::vs,?_,by simp[h2],fun j v d hv hd=>?_⟩
   .simp only[List.mapM_cons,uD,Sem.run_bind,Sem.run_pure,Result.andThen,h1]
   .cases j with
    |zero=>simp at hv hd;subst hv hd;simpa using hf.rel t
    |succ j=>exact h3 j v d (by simpa using hv) (by simpa using hd)
 |.cell b t::rs,.cell n k g::ms,l,hm,he=>by
  simp only[Qr,and_eq_true,beq_iff_eq] at hm;obtain⟨⟨rfl,hT⟩,hm⟩:=hm;simp only[Kg] at he;split at he
  .rename_i d m hd hr;simp only[Option.some.injEq] at he;subst he;obtain⟨vs,h1,h2,h3⟩:=ML hs hf hm hr;simp only[nS] at hd;split at hd
   .rename_i id p heq;have hrel:=hf.rel b;rw[heq] at hrel;obtain⟨ad,u,q1,q2,q3⟩:=ld_var hT hs hrel hd;refine⟨u::vs,?_,by simp[h2],fun j v d hv hd=>?_⟩
    .have qa:(asAddr (a.tmps.getD b undef)).run P w=.ok ad w:=by rw[q1];rfl
     simp only[List.mapM_cons,uD,Sem.run_bind,qa,Sem.run_pure,Result.andThen,q2,h1]
    .cases j with
     |zero=>simp at hv hd;subst hv hd;exact q3
     |succ j=>exact h3 j v d (by simpa using hv) (by simpa using hd)
   .cases hd
  .cases he
theorem run_res{fn:Func}{f:Fn}{l:List D}(hs:BX dp F G w S)(hf:Fr dp F G w a fr)(hm:Qr P fn.results.toList f.res=true)(he:Kg fr S f.res=some l) :
  ∃v,(results fn a.tmps).run P w=.ok v w/\Rel dp F G w v (Z6 l):=by
 obtain⟨vs,h1,h2,h3⟩:=ML hs hf hm he
 have hmap:(fn.results.mapM (uD a)).run P w=.ok vs.toArray w:=by rw[Array.mapM_eq_mapM_toList,Sem.run_map,h1];rfl
 refine⟨if h:vs.toArray.size=1 then vs.toArray[0] else .tuple vs.toArray,?_,?_⟩
 .rw[dN,Sem.run_bind,hmap];rfl
 .by_cases h:vs.length=1
  .match vs,l,h,h2 with
   |[v],[d],_,_=>
    simp[Z6];exact h3 0 v d rfl rfl
  .rw[dif_neg (by simpa using h)]
   have:Z6 l=.AY l:=by
    match l,h2 with
    |[],_=>rfl
    |[d],h2=>exact absurd h2 (by simpa using h)
    |_::_::_,_=>rfl
   rw[this];exact .AY _ _ (by simpa using h2) fun j v d hv hd=>h3 j v d (by simpa using hv) hd
theorem Yi(l m:List D)(t:Nat):Ah (l++m) t=if t<l.length then Ah l t else Ah m (t-l.length):=by
 induction l generalizing t with
 |nil=>simp
 |cons x l ih=>
  cases t with
  |zero=>simp[Ah]
  |succ t=>
   simp only[cons_append,Ah,ih,length_cons];by_cases h:t<l.length
   .rw[if_pos h,if_pos (by omega)]
   .rw[if_neg h,if_neg (by omega)];congr 1;omega
theorem rK(n t:Nat):Ah (List.replicate n D.top) t=.top:=by
 induction n generalizing t with
 |zero=>rfl
 |succ n ih=>
  cases t with
  |zero=>rfl
  |succ t=>simp only[List.replicate_succ,Ah,ih]
theorem AAq(Js:P.follows .mixedOrders=true)(Vh:Good P dp)(xU:Py P dp):∀n,Ez P dp (Bu dp n):=by
 have J0:=Vh.enter;intro n
 induction n with
 |zero=>
  intro g f args S r S' _ he;cases he
 |succ n ih=>
  intro g f args S r S' hg he F G w vs hs hv R hR;simp only[Bu,hg] at he;split at he
  .rename_i fY;have hm:=Vh g f hg;unfold mFn at hm;split at hm
   .rename_i fn hfn;simp only[and_eq_true,beq_iff_eq] at hm;obtain⟨⟨⟨_,hnt⟩,hres⟩,Vd⟩:=hm;split at Vd
    .rename_i code xV;refine calls_of_wp hfn xV ?_
     have C7:Fr dp F G w { tmps:=vs++Array.replicate (fn.ntmps-vs.size) undef,defers:=[] } (Bm f args):=by
      refine⟨?_,fun t=>?_⟩
      .simp[Bm,hv.1,hnt,fY.1]
      .simp only[Bm,Yi];by_cases ht:t<args.length
       .rw[if_pos ht];have ai:t<vs.size:=by rw[hv.1];exact ht
        have e1:(vs++Array.replicate (fn.ntmps-vs.size) undef).getD t undef=vs[t]:=by simp[Array.getElem?_append,ai]
        rw[e1,PD args t args[t] (gA ht)];exact hv.2 t _ _ (getElem?_eq_getElem ai) (gA ht)
       .rw[if_neg ht,rK];exact .top _
     have fin:∀(Au:List D) (S1:A1) (l:List D),Kg Au S1 f.res=some l->r=Z6 l->S'=S1->∀a' w' F' G',BX dp F' G' w' S1->Ext F G w S F' G' w' S1->Fr dp F' G' w' a' Au->a'.defers=[] ->
       a'.defers=[]/\∃v,(results fn a'.tmps).run P w'=.ok v w'/\R (.returned v) w':=by
      intro Au S1 l h1 h2 h3 a' w' F' G' k1 k2 k3 k4;subst h2 h3;obtain⟨v,q1,q2⟩:=run_res k1 k3 hres h1;exact⟨k4,v,q1,hR v w' F' G' k1 k2 q2⟩
     unfold finish at he;split at he
     .rename_i Au S1 hex;cases hl:Kg Au S1 f.res with
      |none=>simp[hl] at he
      |some l=>
       simp only[hl,map_some,Option.some.injEq,Prod.mk.injEq] at he;exact Gb Js ih J0 n f.body code Vd hex hs C7 fun a' w' F' G' k1 k2 k3 k4=>fin Au S1 l hl he.1.symm he.2.symm a' w' F' G' k1 k2 k3 k4
     .rename_i Au S1 hex;cases hl:Kg Au S1 f.res with
      |none=>simp[hl] at he
      |some l=>
       simp only[hl,map_some,Option.some.injEq,Prod.mk.injEq] at he;exact Gb Js ih J0 n f.body code Vd hex hs C7 fun a' w' F' G' k1 k2 k3 k4=>fin Au S1 l hl he.1.symm he.2.symm a' w' F' G' k1 k2 k3 k4
     .cases he
    .cases Vd
   .cases hm
  .exact xU g f args S r S' hg (L1 (Jc n) f args S _ he) F G w vs hs hv R hR
theorem Tf(Js:P.follows .mixedOrders=true)(Vh:Good P dp)(xU:Py P dp):Ez P dp (call dp):=by intro g f args S r S' hg he;obtain⟨n,hn⟩:=(M8 g args S (r,S')).1 he;exact AAq Js Vh xU n g f args S r S' hg hn
end
end
end Go.Proofs.YtjniafcnjbbomaaGreatDoor.DE
