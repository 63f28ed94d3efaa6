/- Joined texts. -/
import Derived.Test.YtjniafcnjbbomaaGreatDoorQx1
import Derived.Test.YtjniafcnjbbomaaGreatDoorQx2
import Derived.Sort.LotA
import Derived.Shelf.SlSortCmp.NoneTotal
set_option linter.all false
open List (flatten_cons getElem?_map)
open Bool (and_eq_true)
open Option (bind_some map_some)
open Nat (add_mul mod_lt one_mul zero_le)
open Array (getD getElem?_append_left getElem?_eq_getElem getElem?_modify getElem?_toList length_toList ofFn size_ofFn)
namespace Go.Proofs.YtjniafcnjbbomaaGreatDoor.DE
open Go
theorem Q5(k:Nat):∀(n:Nat) (cs:List D),(chunks k n cs).length=n
 |0,_=>rfl
 |n+1,cs=>by simp[chunks,Q5 k n]
theorem QE(k:Nat):∀(n:Nat) (cs:List D) (i:Nat),i<n->(chunks k n cs)[i]? = some ((cs.drop (i*k)).take k)
 |0,_,_,h=>by omega
 |n+1,cs,0,_=>by simp[chunks]
 |n+1,cs,i+1,h=>by simp only[chunks,List.getElem?_cons_succ];rw[QE k n _ i (by omega),List.drop_drop];congr 3;rw[add_mul,one_mul,Nat.add_comm]
section
variable {c:AQ}{g:Nat}
theorem Yk:∀{l:List (List D×List D)} {t:List Int},EN c g l=some t->t.length=l.length/\∀(i:Nat) (p:List D×List D),l[i]? = some p->∃z,Jo c g p=some z/\t[i]? = some z
 |[],t,h=>by simp only[EN,Option.some.injEq] at h;subst h;exact⟨rfl,fun i p hp=>by simp at hp⟩
 |q::l,t,h=>by
  simp only[EN] at h;cases h1:Jo c g q with
  |none=>rw[h1] at h;cases h
  |some z=>
   cases h2:EN c g l with
   |none=>rw[h1,h2] at h;cases h
   |some t'=>
    rw[h1,h2] at h;injection h with h
    subst h;obtain⟨e1,e2⟩:=Yk h2;refine⟨by simp[e1],fun i p hp=>?_⟩;cases i with
    |zero=>simp at hp;subst hp;exact⟨z,h1,rfl⟩
    |succ i=>exact e2 i p (by simpa using hp)
theorem T5:∀(xs rows:List (List D)) (i j:Nat) (x y:List D),xs[i]? = some x->rows[j]? = some y->(xs.flatMap fun x=>rows.map fun y=>(x,y))[i*rows.length+j]? = some (x,y)
 |[],_,_,_,_,_,h,_=>by simp at h
 |z::xs,rows,0,j,x,y,h,k=>by simp at h;subst h;have hj:=(gB.1 k).1;rw[List.flatMap_cons,gE (by simpa using hj)];simp[k]
 |z::xs,rows,i+1,j,x,y,h,k=>by
  rw[List.flatMap_cons,gF (by rw[List.length_map,add_mul];omega),List.length_map];have e:(i+1)*rows.length+j-rows.length=i*rows.length+j:=by rw[add_mul];omega
  rw[e];exact T5 xs rows i j x y (by simpa using h) k
def Tc(c:AQ)(g:Nat)(x y:List D):Bool:=match Jo c g (x,y) with
 |some z=>decide (z<0)
 |none=>false
theorem GL{rows:List (List D)}{t:List Int}(h:EN c g (KI rows)=some t){i j:Nat}{x y:List D}(hx:rows[i]? = some x)(hy:rows[j]? = some y) :
  Jo c g (x,y)=some (t.getD (i*rows.length+j) 0)/\iq t rows.length i j=Tc c g x y:=by
 obtain⟨z,h1,h2⟩:=(Yk h).2 _ _ (T5 rows rows i j x y hx hy);have e:t.getD (i*rows.length+j) 0=z:=by rw[gD,h2];rfl
 refine⟨by rw[e];exact h1,?_⟩;unfold iq Tc;rw[e,h1]
structure Ord(c:AQ)(g:Nat)(rows:List (List D)):Prop where
 asym:∀x y,x∈rows->y∈rows->Tc c g x y=true->Tc c g y x=false
 conn:∀x y,x∈rows->y∈rows->Tc c g x y=false->Tc c g y x=false->x=y
 ntrans:∀x y z,x∈rows->y∈rows->z∈rows->Tc c g x y=false->Tc c g y z=false->Tc c g x z=false
theorem Nj{rows:List (List D)}{i:Nat}{x:List D}(h:rows[i]? = some x):rows.getD i []=x:=by rw[gD,h];rfl
variable (hdeq:∀{x y:List D},Lm x y=true->x=y)
include hdeq in
theorem ord_of{rows:List (List D)}{t:List Int}(h:EN c g (KI rows)=some t)(ho:okT (iq t rows.length) rows=true):Ord c g rows:=by
 have at_:∀{x},x∈rows->∃i,i<rows.length/\rows[i]? = some x:=fun{x} hx=>by obtain⟨i,hi⟩:=List.mem_iff_getElem?.1 hx;exact⟨i,(gB.1 hi).1,hi⟩
 unfold okT at ho;have key:∀i j,i<rows.length->j<rows.length->_:=fun i j hi hj=>List.all_eq_true.1 (List.all_eq_true.1 ho i (List.mem_range.2 hi)) j (List.mem_range.2 hj);refine⟨?_,?_,?_⟩
 .intro x y hx hy h1;obtain⟨i,hi,ei⟩:=at_ hx;obtain⟨j,hj,ej⟩:=at_ hy;have hk:=key i j hi hj;simp only[and_eq_true,Bool.or_eq_true] at hk;have e:=hk.1.1;rw[(GL h ei ej).2,(GL h ej ei).2,h1] at e;simpa using e
 .intro x y hx hy h1 h2;obtain⟨i,hi,ei⟩:=at_ hx;obtain⟨j,hj,ej⟩:=at_ hy;have hk:=key i j hi hj;simp only[and_eq_true,Bool.or_eq_true] at hk;have e:=hk.1.2;rw[(GL h ei ej).2,(GL h ej ei).2,h1,h2,Nj ei,Nj ej] at e;refine hdeq ?_;simpa using e
 .intro x y z hx hy hz h1 h2;obtain⟨i,hi,ei⟩:=at_ hx;obtain⟨j,hj,ej⟩:=at_ hy;obtain⟨k,Qy,ek⟩:=at_ hz;have hk:=key i j hi hj;simp only[and_eq_true] at hk;have e:=List.all_eq_true.1 hk.2 k (List.mem_range.2 Qy);rw[(GL h ei ej).2,(GL h ej ek).2,(GL h ei ek).2,h1,h2] at e;simpa using e
theorem Ord.irrefl{rows:List (List D)}(h:Ord c g rows){x:List D}(hx:x∈rows):Tc c g x x=false:=by
 cases e:Tc c g x x with
 |false=>rfl
 |true=>rw[h.asym x x hx hx e] at e;cases e
theorem Ord.trans{rows:List (List D)}(h:Ord c g rows){x y z:List D}(hx:x∈rows)(hy:y∈rows)(hz:z∈rows)(h1:Tc c g x y=true)(h2:Tc c g y z=true):Tc c g x z=true:=by
 cases e:Tc c g x z with
 |true=>rfl
 |false=>
  have h3:=h.asym y z hy hz h2;have:=h.ntrans x z y hx hz hy e h3;rw[h1] at this;cases this
variable {lt:Nat->Nat->Bool}
theorem Px(i:Nat):∀l:List Nat,(eg lt i l).Perm (i::l)
 |[]=>List.Perm.refl _
 |j::l=>by
  simp only[eg];split
  .exact((Px i l).cons j).trans (List.Perm.swap i j l)
  .exact List.Perm.refl _
theorem GK:∀l:List Nat,(OW lt l).Perm l
 |[]=>List.Perm.refl _
 |i::l=>(Px i _).trans ((GK l).cons i)
theorem gf(P:Nat->Prop)(hn:∀a b c:Nat,P a->P b->P c->lt b a=false->lt c b=false->lt c a=false)(ha:∀a b,P a->P b->lt a b=true->lt b a=false)(i:Nat)(hi:P i) :
  ∀l:List Nat,(∀x,x∈l->P x)->l.Pairwise (fun a b=>lt b a=false)->(eg lt i l).Pairwise (fun a b=>lt b a=false)
 |[],_,_=>by simp[eg]
 |j::l,hl,h=>by
  obtain⟨h1,h2⟩:=List.pairwise_cons.1 h;have hj:=hl j (by simp);simp only[eg];split<;>rename_i e
  .refine List.pairwise_cons.2 ⟨fun b hb=>?_,gf P hn ha i hi l (fun x hx=>hl x (by simp[hx])) h2⟩;rcases List.mem_cons.1 ((Px i l).mem_iff.1 hb) with rfl|hb
   .exact ha _ _ hj hi e
   .exact h1 b hb
  .refine List.pairwise_cons.2 ⟨fun b hb=>?_,h⟩;rcases List.mem_cons.1 hb with rfl|hb
   .simpa using e
   .exact hn i j b hi hj (hl b (by simp[hb])) (by simpa using e) (h1 b hb)
theorem Rs(P:Nat->Prop)(hn:∀a b c:Nat,P a->P b->P c->lt b a=false->lt c b=false->lt c a=false)(ha:∀a b,P a->P b->lt a b=true->lt b a=false) :
  ∀l:List Nat,(∀x,x∈l->P x)->(OW lt l).Pairwise (fun a b=>lt b a=false)
 |[],_=>by simp[OW]
 |i::l,hl=>gf P hn ha i (hl i (by simp)) _ (fun x hx=>hl x (by simp[(GK l).mem_iff.1 hx])) (Rs P hn ha l fun x hx=>hl x (by simp[hx]))
end
theorem au(rows:List (List D)):(List.range rows.length).map (fun i=>rows.getD i [])=rows:=by
 apply List.ext_getElem?;intro i;rw[getElem?_map];by_cases h:i<rows.length
 .rw[List.getElem?_range h,map_some,gA h,gD,gA h];rfl
 .rw[List.getElem?_eq_none (by simpa using h),List.getElem?_eq_none (by omega)];rfl
theorem Z8{c:AQ}{g:Nat}{rows l':List (List D)}{t:List Int}(h:EN c g (KI rows)=some t)(ho:Ord c g rows)(hp:l'.Perm rows)(hs:l'.Pairwise fun a b=>Tc c g b a=false) :
  (OW (iq t rows.length) (List.range rows.length)).map (fun i=>rows.getD i [])=l':=by
 have perm:((OW (iq t rows.length) (List.range rows.length)).map (fun i=>rows.getD i [])).Perm rows:=by
  have:=(GK (lt:=iq t rows.length) (List.range rows.length)).map (fun i=>rows.getD i [])
  rwa [au] at this
 have at_:∀i,i<rows.length->rows[i]? = some (rows.getD i [])/\rows.getD i []∈rows:=fun i hi=>by
  have e:rows[i]? = some (rows.getD i []):=by rw[gD,gA hi];rfl
  exact⟨e,gC e⟩
 refine List.Perm.eq_of_pairwise (le:=fun a b=>Tc c g b a=false) ?_ ?_ hs (perm.trans hp.symm)
 .intro a b h1 h2 h3 h4;exact ho.conn a b (perm.mem_iff.1 h1) (hp.mem_iff.1 h2) h4 h3
 .rw[List.pairwise_map];have hw:=Rs (lt:=iq t rows.length) (fun i=>i<rows.length) (fun a b c' ha hb hc h1 h2=>?_) (fun a b ha hb h1=>?_) (List.range rows.length) (fun x hx=>List.mem_range.1 hx)
  .refine List.Pairwise.imp_of_mem ?_ hw;intro a b ha hb e;have ha':=List.mem_range.1 ((GK _).mem_iff.1 ha);have YJ:=List.mem_range.1 ((GK _).mem_iff.1 hb);rw[<-(GL h (at_ b YJ).1 (at_ a ha').1).2];exact e
  .rw[(GL h (at_ _ hc).1 (at_ _ ha).1).2];rw[(GL h (at_ _ hb).1 (at_ _ ha).1).2] at h1;rw[(GL h (at_ _ hc).1 (at_ _ hb).1).2] at h2;exact ho.ntrans _ _ _ (at_ _ hc).2 (at_ _ hb).2 (at_ _ ha).2 h2 h1
  .rw[(GL h (at_ _ hb).1 (at_ _ ha).1).2];rw[(GL h (at_ _ ha).1 (at_ _ hb).1).2] at h1;exact ho.asym _ _ (at_ _ ha).2 (at_ _ hb).2 h1
open Go Go.Sort
section
variable {dp dp':Nat->Option Fn}{F F':GD}{G G':List Gh}{w w':World}
theorem M7:∀{xs:List (List D)} {j:Nat} {x:List D},GB xs=true->xs[j]? = some x->EG x=true
 |[],_,_,_,h=>by simp at h
 |y::l,0,x,hp,h=>by simp only[GB,and_eq_true] at hp;simp at h;subst h;exact hp.1
 |y::l,j+1,x,hp,h=>by simp only[GB,and_eq_true] at hp;exact M7 hp.2 (by simpa using h)
theorem NZ:∀{xs:List D} {j:Nat} {x:D},EG xs=true->xs[j]? = some x->BJ x=true
 |[],_,_,_,h=>by simp at h
 |y::l,0,x,hp,h=>by simp only[EG,and_eq_true] at hp;simp at h;subst h;exact hp.1
 |y::l,j+1,x,hp,h=>by simp only[EG,and_eq_true] at hp;exact NZ hp.2 (by simpa using h)
theorem Rel.AAo{v:Value}{d:D}(h:Rel dp F G w v d)(hF:∀b o,F b o->F' b o)(hw:∀b o,F b o->w'.cell? ⟨b,o,none⟩=w.cell? ⟨b,o,none⟩):BJ d=true->Rel dp' F' G' w' v d:=by
 induction h with
 |top v=>intro hd;simp[BJ] at hd
 |b x=>exact fun _=>.b x
 |i k n=>exact fun _=>.i k n
 |s l=>exact fun _=>.s l
 |nil k o=>exact fun _=>.nil k o
 |sl k xs o blk off cap c hk Eh h1 h2 ho ih=>
  intro hd;simp only[BJ,and_eq_true] at hd;refine .sl k xs o blk off cap c hk Eh (fun j x m d hx hd=>?_) (fun j x m d hx hm=>ih j x m d hx hm (NZ (M7 hd.2 hx) hm)) ?_
  .obtain⟨a,b,e⟩:=h1 j x m d hx hd;exact⟨hF _ _ a,(hw _ _ a).trans b,e⟩
  .cases o with
   |ro=>trivial
   |G4=>exact ho
   |tok t=>simp[Yw] at hd
 |emp k ad cap=>exact fun _=>.emp k ad cap
 |agg vs ds hl h ih=>intro hd;simp[BJ] at hd
 |AY vs ds hl h ih=>intro hd;simp[BJ] at hd
 |bx id o g hg=>intro hd;simp[BJ] at hd
 |el cs blk base o c h1 h2=>intro hd;simp[BJ] at hd
 |ar k id o n cap g hg hn=>intro hd;simp[BJ] at hd
 |KO=>intro hd;simp[BJ] at hd
 |Cy=>intro hd;simp[BJ] at hd
 |mp id g hg=>intro hd;simp[BJ] at hd
 |fn g f hf vs ds hl h=>intro hd;simp[BJ] at hd
end
theorem bG{W w':World}(hos:w'.os=W.os)(l7:w'.tape=W.tape)(oQ:w'.output=W.output)(MO:W.heap.size<=w'.heap.size)(hh:∀b,b<W.heap.size->w'.heap[b]? = W.heap[b]?)(hd:W.drawn<=w'.drawn) :
  ∃q os',w'=grow (W.drewN q) os':=by
 refine⟨w'.drawn-W.drawn,w'.heap.extract W.heap.size w'.heap.size,?_⟩;obtain⟨heap,tape,drawn,os,output⟩:=w';obtain⟨heap0,tape0,drawn0,os0,output0⟩:=W;simp only at hos l7 oQ MO hh hd;subst hos l7 oQ;simp only[grow,World.drewN];congr 1
 .apply Array.ext_getElem?;intro k;by_cases hk:k<heap0.size
  .rw[hh k hk,getElem?_append_left hk]
  .rw[Array.getElem?_append_right (by omega),Array.getElem?_extract];by_cases hk2:k<heap.size
   .rw[if_pos (by omega)];congr 1;omega
   .rw[if_neg (by omega),Array.getElem?_eq_none (by omega)]
 .omega
section
variable {P:Program}{ρ:Go.Shelf.Ren}
theorem Ga.add[Ga](n:Nat):∀m,Ga.rel n (n+m)
 |0=>Ga.refl n
 |m+1=>Ga.trans (Ga.add n m) (Ga.succ _)
theorem pX[Ga]{dp:Nat->Option Fn}{F:GD}{G:List Gh}{w:World}{S:A1}(hs:BX dp F G w S)(os:Array Obj):BX dp F G (grow w os) S/\Ext F G w S F G (grow w os) S:=by
 have Ap:∀b,b<w.heap.size->(grow w os).heap[b]? = w.heap[b]?:=fun b hb=>by simp only[Sort.grow];rw[getElem?_append_left hb]
 exact hs.step (fun _=>False) hs.len (fun _ _ h=>h) (fun _ _ h=>h) (fun b o h=>World.cell?_of_block (a:=⟨b,o,none⟩) (Ap b (hs.Ht h))) (fun _ _ h=>.inl h) (fun b hb _=>Ap b hb) (fun _ h=>h.elim)
  (fun id e g h1 h2=>.inr (.inl ⟨h1,h2,fun h=>h⟩)) (by rw[size_grow];omega) rfl ⟨rfl,Ga.refl _⟩ rfl
theorem flat_get{Z:Type}(k:Nat)(k0:0<k):∀(L:List (List Z)),(∀x∈L,x.length=k)->∀t,L.flatten[t]? = (L[t/k]?).bind (·[t%k]?)
 |[],_,t=>by simp
 |x::L,h,t=>by
  have hx:=h x (by simp);by_cases ht:t<k
  .rw[flatten_cons,gE (by omega),Nat.div_eq_of_lt ht,Nat.mod_eq_of_lt ht];rfl
  .obtain⟨u,rfl⟩:∃u,t=u+k:=⟨t-k,by omega⟩
   rw[flatten_cons,gF (by omega),hx,Nat.add_sub_cancel,Nat.add_div_right u k0,Nat.add_mod_right,List.getElem?_cons_succ];exact flat_get k k0 L (fun y hy=>h y (by simp[hy])) u
theorem Xj{Z:Type}[Inhabited Z](enc:Z->List Value)(k:Nat)(k0:0<k)(hk:∀x,(enc x).length=k)(d:Array Z):(flatK enc k d).toList=(d.toList.map enc).flatten:=by
 apply List.ext_getElem?;intro t;rw[flat_get k k0 _ (fun x hx=>by obtain⟨y,_,rfl⟩:=List.mem_map.1 hx;exact hk y)];rw[getElem?_toList];by_cases ht:t<d.size*k
 .have hdk:t/k<d.size:=by rw[Nat.div_lt_iff_lt_mul k0];exact ht
  have e1:=get_flatK enc k d t ht;rw[getElem!_pos (flatK enc k d) t (by simpa using ht)] at e1;rw[getElem?_eq_getElem (by simpa using ht),e1,getElem?_map,getElem?_toList,getElem?_eq_getElem hdk,map_some,bind_some];have hm:t%k<(enc d[t/k]).length:=by rw[hk];exact mod_lt _ k0
  rw[getElem!_pos d (t/k) hdk,getElem!_pos (enc d[t/k]) (t%k) hm,gA hm]
 .rw[Array.getElem?_eq_none (by simpa using ht)];have:¬t/k<d.size:=by rw[Nat.div_lt_iff_lt_mul k0];exact ht
  rw[getElem?_map,getElem?_toList,Array.getElem?_eq_none (by omega)];rfl
structure Row(dp:Nat->Option Fn)(F:GD)(G:List Gh)(w:World)(k n blk off:Nat)(vs:Array Value)(T:TypeId)(cs:List D):Prop where
 heap:w.heap[blk]? = some (.cells vs T (0,0))
 len:off+n*k<=cs.length
 le:cs.length<=vs.size
 one:∀v∈vs.toList,v.oneCell'=true
 rel:∀(m:Nat) (v:Value) (d:D),vs[m]? = some v->cs[m]? = some d->Rel dp F G w v d
 noF:∀o,¬F blk o
variable {dp:Nat->Option Fn}{F:GD}{G:List Gh}{w:World}{k n blk off:Nat}{vs:Array Value}{T:TypeId}{cs:List D}
def G6(vs:Array Value)(k off:Nat){n:Nat}(i:Fin n):List Value:=(List.range k).map fun m=>vs.getD (off+i.val*k+m) (.int .i64 0)
def GN(cs:List D)(k off:Nat){n:Nat}(i:Fin n):List D:=((cs.drop off).drop (i.val*k)).take k
theorem KZ(i:Fin n):(G6 vs k off i).length=k:=by simp[G6]
theorem mB(i:Fin n)(m:Nat)(hm:m<k):i.val*k+m<n*k:=by have h1:(i.val+1)*k<=n*k:=Nat.mul_le_mul_right k i.isLt;rw[add_mul,one_mul] at h1;omega
theorem Row.enc(h:Row dp F G w k n blk off vs T cs)(i:Fin n)(m:Nat)(hm:m<k):(G6 vs k off i)[m]? = vs[off+i.val*k+m]?/\off+i.val*k+m<vs.size:=by
 have hb:=mB i m hm;have:=h.len;have:=h.le;have Ap:off+i.val*k+m<vs.size:=by omega
 refine⟨?_,Ap⟩;simp[G6,hm,getD,Ap]
theorem Row.row(h:Row dp F G w k n blk off vs T cs)(i:Fin n)(m:Nat)(hm:m<k):(GN cs k off i)[m]? = cs[off+i.val*k+m]?:=by unfold GN;rw[List.getElem?_take,if_pos hm,List.getElem?_drop,List.getElem?_drop];congr 1;omega
theorem Row.Re(h:Row dp F G w k n blk off vs T cs)(i:Fin n):(GN cs k off i).length=k:=by have h1:(i.val+1)*k<=n*k:=Nat.mul_le_mul_right k i.isLt;rw[add_mul,one_mul] at h1;have:=h.len;unfold GN;rw[List.length_take,List.length_drop,List.length_drop];omega
theorem Row.holds(h:Row dp F G w k n blk off vs T cs)(k0:0<k)[Inhabited (Fin n)]:HoldsK (G6 vs k off) k w blk off (ofFn (n:=n) id):=by
 intro t ht;rw[size_flatK,size_ofFn] at ht;have hdk:t/k<n:=by rw[Nat.div_lt_iff_lt_mul k0];exact ht
 have hm:=mod_lt t k0;obtain⟨e1,e2⟩:=h.enc ⟨t/k,hdk⟩ (t%k) hm;have e3:t/k*k+t%k=t:=by rw[Nat.mul_comm];exact Nat.div_add_mod t k
 simp only at e1 e2;rw[Nat.add_assoc,e3] at e1 e2
 have e4:(flatK (G6 vs k off) k (ofFn (n:=n) id))[t]! = vs[off+t]:=by
  rw[get_flatK _ _ _ t (by rw[size_ofFn];exact ht),getElem!_pos (ofFn (n:=n) id) (t/k) (by simpa using hdk),Array.getElem_ofFn];have hl:t%k<(G6 vs k off (⟨t/k,hdk⟩:Fin n)).length:=by rw[KZ];exact hm
  show(G6 vs k off (⟨t/k,hdk⟩:Fin n))[t%k]! = _;rw[getElem!_pos _ (t%k) hl];rw[gA hl,getElem?_eq_getElem e2] at e1;injection e1
 refine⟨?_,?_⟩
 .rw[e4];show w.cell? ⟨blk,off+t,none⟩=some (id vs[off+t]);simp[World.cell?,h.heap,e2]
 .simp[World.frozen?,h.heap]
theorem wP{dp:Nat->Option Fn}{g:Nat}{f:Fn}(h:Ky dp g=some f):dp g=some f:=by
 unfold Ky at h;split at h
 .rename_i f' hf;split at h
  .rw[hf];exact h
  .cases h
 .cases h
theorem eo{dp:Nat->Option Fn}(hc:@Ez Ga.mono P (Ky dp) (call (Ky dp))){F:GD}{G:List Gh}{w:World}{S:A1}(hs:BX dp F G w S)(h:Row dp F G w k n blk off vs T cs)(Qu:Mx S G blk)(k0:0<k)[Inhabited (Fin n)]
  {g:Nat} {fc:Fn} (hg:Ky dp g=some fc) (cf:Fin n->Fin n->Int) (yM:∀i j,Jo (call (Ky dp)) g (GN cs k off i,GN cs k off j)=some (cf i j)) (hp:∀i:Fin n,EG (GN cs k off i)=true) :
  CmpLays P fc.real #[] (G6 vs k off) k cf blk off n w:=by
 letI:Ga:=Ga.mono
 intro m os dk hdk x y
 have Cv:∀b o,F b o->(sortWorldK (G6 vs k off) k w blk off m dk os).cell? ⟨b,o,none⟩=w.cell? ⟨b,o,none⟩:=by intro b o hF;have CF:b≠blk:=fun e=>h.noF o (e▸hF);refine World.cell?_of_block (a:=⟨b,o,none⟩) ?_;show(Sort.grow (putRowK (G6 vs k off) k (Sort.ahead w m) blk off dk) os).heap[b]? = w.heap[b]?;have Ap:=hs.Ht hF;simp only[Sort.grow,putRowK,putRow,mapBlock,Sort.ahead];rw[getElem?_append_left (by simpa using Ap),getElem?_modify,if_neg (Ne.symm CF)]
 have Cw:w.heap.size<=(sortWorldK (G6 vs k off) k w blk off m dk os).heap.size:=by show w.heap.size<=(Sort.grow (putRowK (G6 vs k off) k (Sort.ahead w m) blk off dk) os).heap.size;simp[Sort.grow,putRowK,putRow,mapBlock,Sort.ahead]
 have C7:∀b,b<w.heap.size->¬Mx S G b->(sortWorldK (G6 vs k off) k w blk off m dk os).heap[b]? = w.heap[b]?:=by intro b Ap OC;have CF:b≠blk:=fun e=>OC (e▸Qu);show(Sort.grow (putRowK (G6 vs k off) k (Sort.ahead w m) blk off dk) os).heap[b]? = w.heap[b]?;simp only[Sort.grow,putRowK,putRow,mapBlock,Sort.ahead];rw[getElem?_append_left (by simpa using Ap),getElem?_modify,if_neg (Ne.symm CF)]
 generalize sortWorldK (G6 vs k off) k w blk off m dk os=W at Cv Cw C7;have hz:=yM x y;unfold Jo at hz;cases hi:A0 (call (Ky dp)) g [.agg (GN cs k off x),.agg (GN cs k off y)] with
 |none=>rw[hi] at hz;cases hz
 |some r=>
  rw[hi] at hz
  have hr:r=.i .i64 (cf x y):=by
   split at hz
   .rename_i z xM;injection hz with hz;injection xM with xM
    rw[xM,hz]
   .cases hz
  subst hr;unfold A0 at hi;split at hi
  .split at hi
   .rename_i r0 S0 Ve;split at hi
    .injection hi with hi
     have hr0:r0=.i .i64 (cf x y):=by cases r0<;>first|exact hi|(simp[Ae,strip] at hi)
     subst hr0
     have hsW:BX (Ky dp) F [] W []:=⟨rfl,fun b o hF=>by obtain⟨v,hv⟩:=hs.U1 b o hF;exact⟨v,(Cv b o hF).trans hv⟩,fun _ _ _ h=>(by cases h),fun _ _ _ _ _ _ _ h=>(by cases h),
      hs.YA.O7 C7 (fun b h=>absurd h (HU b)) Cw⟩
     have hagg:∀i:Fin n,Rel (Ky dp) F [] W (.agg (G6 vs k off i).toArray) (.agg (GN cs k off i)):=by
      intro i;refine .agg _ _ (by simp[KZ,h.Re]) fun j v d hv hd=>?_;have hj:j<k:=by have:=(gB.1 hd).1;rwa [h.Re] at this
      rw[List.getElem?_toArray,(h.enc i j hj).1] at hv;have PI:=hd;rw[h.row i j hj] at hd;exact(h.rel _ v d hv hd).AAo (fun _ _ h=>h) Cv (NZ (hp i) PI)
     have OE:stripL [D.agg (GN cs k off x),.agg (GN cs k off y)]=[D.agg (EW (GN cs k off x)),.agg (EW (GN cs k off y))]:=rfl
     have fX:∀l:List D,EG l=true->EW l=l:=by
      intro l
      induction l with
      |nil=>intro _;rfl
      |cons d l ih=>
       intro hl;simp only[EG,and_eq_true] at hl;simp only[EW,ih hl.2];congr 1;cases d with
       |sl k' nn xs o=>
        simp only[BJ,and_eq_true] at hl;cases o<;>simp_all [Yw,Lx]
       |_=>rfl
     rw[OE,fX _ (hp x),fX _ (hp y)] at Ve;refine hc g fc _ [] _ S0 hg Ve F [] W _ hsW ⟨rfl,?_⟩ _ ?_
     .intro j v d hv hd
      match j with
      |0=>simp at hv hd;subst hv hd;exact hagg x
      |1=>simp at hv hd;subst hv hd;exact hagg y
      |j+2=>simp at hd
     .intro v w' F' G' _ hE hR;cases hR;refine⟨rfl,bG hE.os hE.tape.1 hE.output hE.size (fun b hb=>hE.frame b hb (HU b)) hE.tape.2⟩
    .cases hi
   .cases hi
  .cases hi
theorem so(h:Row dp F G w k n blk off vs T cs)(i:Fin n):(chunks k n (cs.drop off))[i.val]? = some (GN cs k off i):=QE k n _ _ i.isLt
theorem swo_of{dp:Nat->Option Fn}{g:Nat}{rows:List (List D)}{cf:Fin n->Fin n->Int}(ho:Ord (call (Ky dp)) g rows)(rw':Fin n->List D)(hm:∀i,rw' i∈rows)(yM:∀i j,Jo (call (Ky dp)) g (rw' i,rw' j)=some (cf i j)):SWO (Go.Proofs.ltOf cf):=by
 have e:∀i j,Go.Proofs.ltOf cf i j=Tc (call (Ky dp)) g (rw' i) (rw' j):=fun i j=>by unfold Go.Proofs.ltOf Tc;rw[yM i j]
 refine⟨fun x=>?_,fun x y z h1 h2=>?_,fun x y z h1 h2=>?_⟩
 .rw[e];exact ho.irrefl (hm x)
 .rw[e] at *;exact ho.trans (hm x) (hm y) (hm z) h1 h2
 .rw[e] at *;exact ho.ntrans _ _ _ (hm x) (hm y) (hm z) h1 h2
theorem Ys[Ga](vs F0:Array Value)(off:Nat)(h:off+F0.size<=vs.size):putCells id off F0 vs=(vs.toList.take off++F0.toList++vs.toList.drop (off+F0.toList.length)).toArray:=by
 apply Array.ext_getElem?;intro t;rw[Rk _ _ _ _ (by simpa using h)];simp only[putCells,Array.getElem?_mapIdx,length_toList,getElem?_toList];by_cases hc:off<=t/\t<off+F0.size
 .rw[if_pos hc];have ht:t<vs.size:=by omega
  rw[getElem?_eq_getElem ht,map_some,if_pos hc,getElem?_eq_getElem (by omega),getElem!_pos _ _ (by omega)];rfl
 .rw[if_neg hc];cases vs[t]? with
  |none=>rfl
  |some v=>simp only[map_some,if_neg hc]
theorem dL[Ga]{dp:Nat->Option Fn}{F:GD}{G:List Gh}{w:World}{S:A1}(hs:BX dp F G w S){Ls:Nat}{gh:Gh}(hS:AA S Ls=some (.box cs))(hG:AA G Ls=some gh)(h:Row dp F G w k n gh.blk off vs T cs)(hhi:gh.hi<=vs.size)(k0:0<k)[Inhabited (Fin n)]
  (d':Array (Fin n)) (hd:d'.size=n) (m:Nat) (os:Array Obj) :
  BX dp F G (sortWorldK (G6 vs k off) k w gh.blk off m d' os) (sset S Ls (.box (Ai cs off (d'.toList.map (GN cs k off)).flatten))) /\
   Ext F G w S F G (sortWorldK (G6 vs k off) k w gh.blk off m d' os) (sset S Ls (.box (Ai cs off (d'.toList.map (GN cs k off)).flatten))):=by
 have KR:(flatK (G6 vs k off) k d').toList=(d'.toList.map (G6 vs k off)).flatten:=Xj _ k k0 KZ d';have YO:(flatK (G6 vs k off) k d').size=n*k:=by rw[size_flatK,hd]
 have hlen:=h.len;have hle:=h.le;have hA:=Ys vs (flatK (G6 vs k off) k d') off (by rw[YO];omega)
 have hw:V9 w gh.blk (.cells (putCells id off (flatK (G6 vs k off) k d') vs) T (0,0)) (putRowK (G6 vs k off) k (Sort.ahead w m) gh.blk off d'):=by
  refine⟨?_,fun b hb=>?_,?_,rfl,⟨rfl,?_⟩,rfl⟩
  .simp only[putRowK,putRow,mapBlock,Sort.ahead];rw[getElem?_modify,if_pos rfl,h.heap];rfl
  .simp only[putRowK,putRow,mapBlock,Sort.ahead];rw[getElem?_modify,if_neg (Ne.symm hb)]
  .simp[putRowK,putRow,mapBlock,Sort.ahead]
  .exact Ga.add _ _
 have hrl:(d'.toList.map (GN cs k off)).flatten.length=n*k:=by
  have:∀l:List (Fin n),(l.map (GN cs k off)).flatten.length=l.length*k:=by
   intro l
   induction l with
   |nil=>simp
   |cons x l ih=>rw[List.map_cons,flatten_cons,List.length_append,ih,h.Re,List.length_cons,add_mul,one_mul,Nat.add_comm]
  rw[this,length_toList,hd]
 have hfll:(flatK (G6 vs k off) k d').toList.length=n*k:=by rw[length_toList,YO]
 have h3:∀(j:Nat) (v:Value) (d:D),(flatK (G6 vs k off) k d').toList[j]? = some v->(d'.toList.map (GN cs k off)).flatten[j]? = some d->Rel dp F G w v d:=by
  intro j v d hv PI;rw[KR,flat_get k k0 _ (fun x hx=>by obtain⟨y,_,rfl⟩:=List.mem_map.1 hx;exact KZ y)] at hv;rw[flat_get k k0 _ (fun x hx=>by obtain⟨y,_,rfl⟩:=List.mem_map.1 hx;exact h.Re y)] at PI;rw[getElem?_map] at hv PI;cases hi:d'.toList[j/k]? with
  |none=>rw[hi] at hv;cases hv
  |some i=>
   rw[hi] at hv PI;simp only[map_some,bind_some] at hv PI;have hm:=mod_lt j k0;rw[(h.enc i _ hm).1] at hv;rw[h.row i _ hm] at PI;exact h.rel _ v d hv PI
 have hput:=EP.put (dp:=dp) (F:=F) (G:=G) (w:=w) (cur:=vs) (z:=cs) (o:=off) (vs:=(flatK (G6 vs k off) k d').toList) (ds:=(d'.toList.map (GN cs k off)).flatten) ⟨hle,h.rel⟩ (by rw[hfll,hrl]) h3 (by rw[hrl];omega)
 have UX:∀u∈(flatK (G6 vs k off) k d').toList,u.oneCell'=true:=by
  intro u hu;obtain⟨j,hj⟩:=List.mem_iff_getElem?.1 hu;rw[KR,flat_get k k0 _ (fun x hx=>by obtain⟨y,_,rfl⟩:=List.mem_map.1 hx;exact KZ y),getElem?_map] at hj;cases hi:d'.toList[j/k]? with
  |none=>rw[hi] at hj;cases hj
  |some i=>
   rw[hi] at hj;simp only[map_some,bind_some] at hj;rw[(h.enc i _ (mod_lt j k0)).1] at hj;exact h.one u (by rw[<-getElem?_toList] at hj;exact gC hj)
 rw[<-hA] at hput
 have Cv:∀b o,F b o->(putRowK (G6 vs k off) k (Sort.ahead w m) gh.blk off d').cell? ⟨b,o,none⟩=w.cell? ⟨b,o,none⟩:=fun b o hF=>
  World.cell?_of_block (a:=⟨b,o,none⟩) (hw.other b fun e=>h.noF o (e▸hF))
 obtain⟨s1,x1⟩:=hs.write (e':=.box (Ai cs off (d'.toList.map (GN cs k off)).flatten)) hS hG trivial hw (fun o hF=>(h.noF o hF).elim) (fun _ _ h=>h) (fun _ _ h=>.inl h)
  ⟨_,T,hw.at_,⟨hput.1,by simpa[putCells] using hhi⟩,h.noF,by rw[hA];exact XG h.one UX,fun j v d hv hd=>(hput.2 j v d hv hd).mono (fun _ _ h=>h) (fun _ _ h=>h) Cv⟩
 obtain⟨s2,x2⟩:=pX s1 os;exact⟨s2,x1.trans x2⟩
theorem ph[Ga]{dp:Nat->Option Fn}(L:Go.Proofs.SlLaysF0.n14 P ρ)(k:Nat)(aE:∀w,(isAgg (ρ.t 24)).run P w=.ok true w)(zE:∀w,(Go.sizeOf (ρ.t 24)).run P w=.ok k w)(J0:Lg P dp)
  (hc:@Ez Ga.mono P (Ky dp) (call (Ky dp))) {f:Fn} (fY:f.np=3000+k) (hreal:f.real=ρ.f 14) {args:List D} {S S':A1} {r:D} (he:Bb (call (Ky dp)) f args S=some (r,S'))
  (F:GD) (G:List Gh) (w:World) (vs:Array Value) (hs:BX dp F G w S) (hv:LI dp F G w vs args) (R:Ending->World->Prop) (hR:∀v w' F' G',BX dp F' G' w' S'->Ext F G w S F' G' w' S'->Rel dp F' G' w' v r->R (.returned v) w') :
  Calls P f.real vs w R:=by
 unfold Bb at he;rw[if_neg (by omega),if_neg (by omega),if_neg (by omega),if_neg (by omega),if_pos (by omega)] at he;rw[hreal];obtain⟨Lh,EM⟩:=hv
 have fnv:∀{v:Value} {g:Nat},Rel dp F G w v (.fn g [])->∃fc,dp g=some fc/\v=.func (.func fc.real) #[] #[]:=by
  intro v g h;cases h with
  |fn g f hf vs ds hl h=>
   refine⟨f,hf,?_⟩;have:vs = #[]:=by apply Array.eq_empty_of_size_eq_zero;simpa using hl
   rw[this]
 split at he
 .rename_i k' id o n a b lim g;split at he
  .rename_i hk;obtain⟨⟨hk1,k0⟩,ha,hb0,YD,pE⟩:=hk;have hkk:k'=k:=by omega
   subst hkk ha hb0;split at he
   .rename_i cs hS;split at he
    .rename_i hlen;cases fZ:Ha (call (Ky dp)) k' g (chunks k' n (cs.drop o)) with
     |none=>rw[fZ] at he;cases he
     |some rows=>
      rw[fZ] at he;injection he with he
      injection he with h1 h2
      subst h1 h2;obtain⟨l⟩:=vs
      match l,Lh with
      |[v0,v1,v2,v3,v4],_=>
       have r0:=EM 0 v0 _ (by simp) rfl;have r1:=EM 1 v1 _ (by simp) rfl;have r2:=EM 2 v2 _ (by simp) rfl;have r3:=EM 3 v3 _ (by simp) rfl;have r4:=EM 4 v4 _ (by simp) rfl;cases r1;cases r2;cases r3;obtain⟨fc,hfc,rfl⟩:=fnv r4;cases r0 with
       |ar _ _ _ _ cap gh hgh hn=>
        obtain⟨cur,T,e1,⟨e2,e2h⟩,e3,e4,e5⟩:=hs.aV id _ gh hS hgh;have Hv:Row dp F G w k' n gh.blk o cur T cs:=⟨e1,hlen,e2,e4,e5,e3⟩
        have hlr:(chunks k' n (cs.drop o)).length=n:=Q5 k' n _;unfold Ha at fZ;split at fZ
        .rename_i Hz;obtain⟨fX,_,_⟩:=Hz;cases hcm:EN (call (Ky dp)) g (KI (chunks k' n (cs.drop o))) with
         |none=>rw[hcm] at fZ;cases fZ
         |some t=>
          rw[hcm] at fZ;simp only at fZ;split at fZ
          .rename_i Bg;injection fZ with fZ
           have ho:=ord_of Jy hcm Bg;obtain⟨lim',rfl⟩:∃q:Nat,lim=q:=⟨lim.toNat,by omega⟩
           rcases Nat.eq_zero_or_pos n with rfl|hn0
           .refine(Go.Proofs.AnyF.pdqsortCmpFunc_none L _ cap _ _ w).mono ?_;rintro e w' ⟨rfl,rfl⟩;have hr0:rows=[]:=by rw[<-fZ];rfl
            subst hr0;obtain⟨s1,x1⟩:=hs.write (w':=w') (e':=.box cs) hS hgh trivial (x:=.cells cur T (0,0)) ⟨e1,fun _ _=>rfl,rfl,rfl,⟨rfl,Ga.refl _⟩,rfl⟩ (fun _ _=>rfl) (fun _ _ h=>h) (fun _ _ h=>.inl h) ⟨cur,T,e1,⟨e2,e2h⟩,e3,e4,e5⟩;exact hR _ _ F G s1 x1 (.AY _ _ rfl fun j v d hv=>by simp at hv)
           .haveI:Inhabited (Fin n):=⟨⟨0,hn0⟩⟩
            have hb:gh.blk<w.heap.size:=by have:=(Array.getElem?_eq_some_iff.1 e1).1;exact this
            have Lc:∀i:Fin n,(chunks k' n (cs.drop o))[i.val]? = some (GN cs k' o i):=so Hv
            have yM:∀i j:Fin n,Jo (call (Ky dp)) g (GN cs k' o i,GN cs k' o j)=some (t.getD (i.val*n+j.val) 0):=fun i j=>by
             have:=(GL hcm (Lc i) (Lc j)).1
             rwa [hlr] at this
            have UY:∀i:Fin n,GN cs k' o i∈chunks k' n (cs.drop o):=fun i=>gC (Lc i);have swo:=swo_of ho (GN cs k' o) UY yM
            have hnoP:Ky dp g=some fc:=by
             have h1:=yM ⟨0,hn0⟩ ⟨0,hn0⟩;cases hq:Ky dp g with
             |some f1=>rw[wP hq] at hfc;exact hfc
             |none=>
              unfold Jo A0 at h1;rw[LO,hq] at h1;split at h1
              .rename_i heq;split at heq<;>cases heq
              .cases h1
            have hlay:=eo hc hs Hv ⟨id,_,gh,hS,trivial,hgh,rfl⟩ k0 hnoP (fun i j=>t.getD (i.val*n+j.val) 0) yM (fun i=>M7 fX (Lc i));have Cw:(ofFn (n:=n) (_root_.id)).size=n:=size_ofFn
            have hrk:Go.Proofs.RowK (G6 cur k' o) k' w gh.blk o (ofFn (n:=n) _root_.id):=by refine⟨KZ,fun x v hv=>?_,Hv.holds k0,hb⟩;obtain⟨q,hq,rfl⟩:=List.mem_map.1 hv;have fU:=List.mem_range.1 hq;have:=(Hv.enc x q fU).2;refine e4 _ ?_;simp only[getD,this,dif_pos];exact Array.getElem_mem_toList _
            have key:=Go.Proofs.AnyQ.pdqsortCmpFunc_all L k' aE zE (G6 cur k' o) (fun i j=>t.getD (i.val*n+j.val) 0) fc.real #[] swo gh.blk o cap (ofFn (n:=n) _root_.id) w (fun a w=>Pv J0 hfc a) (by rw[Cw];exact hlay) hrk (n+1) 0 n lim' (ofFn (n:=n) _root_.id) w (by omega) rfl (Go.Proofs.SWK.start (Hv.holds k0)) (zero_le _) (by rw[Cw];exact Nat.le_refl _) (by rw[Cw];omega) (by omega) (Or.inl rfl);rw[Cw] at key;refine key.mono ?_;rintro e w' ⟨rfl,m,os,rfl⟩;have hsort:=pdq_sorts (Go.Proofs.ltOf fun i j:Fin n=>t.getD (i.val*n+j.val) 0) swo (ofFn (n:=n) _root_.id) 0 n lim' true true (zero_le _) (by rw[Cw];exact Nat.le_refl _) (Or.inl rfl);generalize pdq (Go.Proofs.ltOf fun i j:Fin n=>t.getD (i.val*n+j.val) 0) (ofFn (n:=n) _root_.id) 0 n lim' true true=d' at hsort;obtain⟨⟨p1,_,p3⟩,hso⟩:=hsort;have hd:d'.size=n:=p1.trans Cw;have ex:∀a:Array (Fin n),a.size=n->a.extract 0 n=a:=fun a ha=>by have:=Array.extract_size (xs:=a);rwa [ha] at this
            rw[ex d' hd,ex _ Cw] at p3
            have lH:(ofFn (n:=n) _root_.id).toList.map (GN cs k' o)=chunks k' n (cs.drop o):=by
             apply List.ext_getElem?;intro q;rw[getElem?_map,getElem?_toList];by_cases hq:q<n
             .rw[getElem?_eq_getElem (by rw[Cw];exact hq),Array.getElem_ofFn,map_some];exact(Lc ⟨q,hq⟩).symm
             .rw[Array.getElem?_eq_none (by rw[Cw];omega),List.getElem?_eq_none (by rw[hlr];omega)];rfl
            have lI:=p3.map (GN cs k' o);rw[lH] at lI
            have xW:(d'.toList.map (GN cs k' o)).Pairwise fun a b=>Tc (call (Ky dp)) g b a=false:=by
             rw[List.pairwise_map,List.pairwise_iff_getElem];intro i j hi hj l8;have hi':i<d'.size:=by simpa using hi
             have hj':j<d'.size:=by simpa using hj
             have:=hso i j (zero_le _) l8 (by omega);rw[getElem!_pos d' j hj',getElem!_pos d' i hi'] at this;rw[Array.getElem_toList,Array.getElem_toList];unfold Tc;rw[yM];exact this
            have ab:rows=d'.toList.map (GN cs k' o):=by rw[<-fZ];exact Z8 hcm ho lI xW
            rw[ab] at hR;obtain⟨s1,x1⟩:=dL hs hS hgh Hv e2h k0 d' hd m os;exact hR _ _ F G s1 x1 (.AY _ _ rfl fun j v d hv=>by simp at hv)
          .cases fZ
        .cases fZ
    .cases he
   .cases he
  .cases he
 .rename_i k' nn o a b lim g;split at he
  .rename_i oX;obtain⟨rfl,rfl⟩:=oX;injection he with he
   injection he with h1 h2
   subst h1 h2;obtain⟨l⟩:=vs
   match l,Lh with
   |[v0,v1,v2,v3,v4],_=>
    have r0:=EM 0 v0 _ (by simp) rfl;have r1:=EM 1 v1 _ (by simp) rfl;have r2:=EM 2 v2 _ (by simp) rfl;have r3:=EM 3 v3 _ (by simp) rfl;have r4:=EM 4 v4 _ (by simp) rfl;cases r1;cases r2;cases r3;obtain⟨fc,hfc,rfl⟩:=fnv r4
    have fin:∀(p:Option Addr) (cap:Nat),v0=.slice p 0 cap->Calls P (ρ.f 14) #[v0,.int .i64 0,.int .i64 0,.int .i64 lim,.func (.func fc.real) #[] #[]] w R:=by intro p cap e;subst e;refine(Go.Proofs.AnyF.pdqsortCmpFunc_none L p cap lim _ w).mono ?_;rintro e w' ⟨rfl,rfl⟩;exact hR _ _ F G hs (Ext.refl _ _ _ _) (.AY _ _ rfl fun j v d hv=>by simp at hv)
    cases r0 with
    |nil k o=>exact fin none 0 rfl
    |sl k xs o blk off cap c hk Eh h1 h2 ho=>exact fin _ _ rfl
    |emp k ad cap=>exact fin _ _ rfl
  .cases he
 .cases he
end
end Go.Proofs.YtjniafcnjbbomaaGreatDoor.DE
