/-
  SEVERAL TEXTS IN ONE (joined by tools/asm3.py of this repository): De15, De16, De17, De18, De19, De20, De21.
-/
import Derived.Test.YtjniafcnjbbomaaGreatDoorQd1
import Derived.MapKept
import Derived.Orders
import Derived.Tactics
set_option linter.unusedVariables false
set_option linter.unusedSimpArgs false
namespace Go.Proofs.YtjniafcnjbbomaaGreatDoor.DE
open Go
section
variable {P:Program} {dp:Nat→Option Fn} {F F':Fix} {G G':List Gh} {w w':World} {S S':Store} {a:Act} {fr:List D} {o:Oper} {d:D}
theorem same1 {k:SK} {x y:D} {u v:Value} (n:Nat) (h:keq (.one k) x y=some true) (hu:Rel dp F G w u x) (hv:Rel dp F G w v y):Instr.sameBits n u v=true:=by
 simp only [keq] at h
 split at h
 ·rename_i hc
  simp only [Bool.and_eq_true] at hc
  cases hu <;> simp only [seq1] at h <;> try (cases h;done)
  ·cases hv <;> simp only at h <;> try (cases h;done)
   simpa [Instr.sameBits] using h
  ·cases hv <;> simp only at h <;> try (cases h;done)
   split at h
   ·rename_i hk;subst hk
    simpa [Instr.sameBits] using h
   ·cases h
  ·cases hv <;> simp only at h <;> try (cases h;done)
   injection h with h
   simp only [beq_iff_eq] at h
   subst h
   simp [Instr.sameBits,beq_toListBytes]
 ·cases h
theorem seqL_get:∀ {ks:List SK} {xs ys:List D},seqL ks xs ys=some true→∀ (j:Nat) (x y:D),xs[j]? = some x→ys[j]? = some y→∃ k,keq (.one k) x y=some true
 | [],[],[],_,_,_,_,h,_=>by simp at h
 | [],_::_,_,h,_,_,_,_,_=>by simp [seqL] at h
 | [],[],_::_,h,_,_,_,_,_=>by simp [seqL] at h
 | _::_,[],_,h,_,_,_,_,_=>by simp [seqL] at h
 | _::_,_::_,[],h,_,_,_,_,_=>by simp [seqL] at h
 | k::ks,x::l,y::m,h,j,x',y',hx,hy=>by
  simp only [seqL] at h
  split at h
  ·rename_i hc
   split at h
   ·rename_i p q h1 h2
    injection h with h
    simp only [Bool.and_eq_true] at h
    obtain ⟨rfl,rfl⟩:=h
    match j with
    | 0=>
     simp at hx hy
     subst hx hy
     exact ⟨k,by simp only [keq];rw [if_pos hc];exact h1⟩
    | j+1=>exact seqL_get h2 j x' y' (by simpa using hx) (by simpa using hy)
   ·cases h
  ·cases h
theorem same_key {kk:KK} {x y:D} {u v:Value} (h:keq kk x y=some true) (hu:Rel dp F G w u x) (hv:Rel dp F G w v y):Instr.sameBits 10000 u v=true:=by
 cases kk with
 | one k=>exact same1 _ h hu hv
 | agg ks=>
  cases x <;> simp only [keq] at h <;> try (cases h;done)
  cases y <;> simp only at h <;> try (cases h;done)
  rename_i xs ys
  obtain ⟨us,rfl⟩:=rel_agg hu
  obtain ⟨vs,rfl⟩:=rel_agg hv
  cases hu with
  | agg _ _ hl1 h1=>
   cases hv with
   | agg _ _ hl2 h2=>
    obtain ⟨l1,l2⟩:=seqL_length h
    show Instr.sameBits (9999+1) (.agg us) (.agg vs)=true
    simp only [Instr.sameBits,Bool.and_eq_true,beq_iff_eq,List.all_eq_true]
    refine ⟨by omega,?_⟩
    rintro ⟨p,q⟩ hpq
    obtain ⟨j,hj,hz⟩:=List.getElem_of_mem hpq
    simp only [List.length_zip,Array.length_toList] at hj
    have hz':=hz
    simp only [List.getElem_zip,Prod.mk.injEq,Array.getElem_toList] at hz'
    have hx:j<xs.length:=by omega
    have hy:j<ys.length:=by omega
    obtain ⟨k,hk⟩:=seqL_get h j xs[j] ys[j] (List.getElem?_eq_getElem hx) (List.getElem?_eq_getElem hy)
    refine same1 (dp:=dp) (F:=F) (G:=G) (w:=w) 9999 hk (h1 j p _ ?_ (List.getElem?_eq_getElem hx)) (h2 j q _ ?_ (List.getElem?_eq_getElem hy))
    ·rw [Array.getElem?_eq_getElem (by omega),hz'.1]
    ·rw [Array.getElem?_eq_getElem (by omega),hz'.2]
theorem keq_symm {kk:KK} {x y:D} (h:keq kk x y=some true):keq kk y x=some true:=by
 have s1:∀ {x y:D},seq1 x y=some true→seq1 y x=some true:=by
  intro x y h
  unfold seq1 at h
  split at h
  ·injection h with h;simp only [beq_iff_eq] at h;subst h;simp [seq1]
  ·split at h
   ·rename_i hk;subst hk
    injection h with h;simp only [beq_iff_eq] at h;subst h;simp [seq1]
   ·cases h
  ·injection h with h;simp only [beq_iff_eq] at h;subst h;simp [seq1]
  ·cases h
 cases kk with
 | one k=>
  simp only [keq] at h ⊢
  split at h
  ·rename_i hc
   rw [if_pos (by simpa [and_comm] using hc)]
   exact s1 h
  ·cases h
 | agg ks=>
  cases x <;> simp only [keq] at h <;> try (cases h;done)
  cases y <;> simp only at h <;> try (cases h;done)
  rename_i xs ys
  simp only [keq]
  induction ks generalizing xs ys with
  | nil=>
   cases xs <;> cases ys <;> simp_all [seqL]
  | cons k ks ih=>
   cases xs with
   | nil=>simp [seqL] at h
   | cons x xs=>
    cases ys with
    | nil=>simp [seqL] at h
    | cons y ys=>
     simp only [seqL] at h ⊢
     split at h
     ·rename_i hc
      rw [if_pos (by simpa [and_comm] using hc)]
      split at h
      ·rename_i p q h1 h2
       injection h with h
       simp only [Bool.and_eq_true] at h
       obtain ⟨rfl,rfl⟩:=h
       rw [s1 h1,ih xs ys h2]
       rfl
      ·cases h
     ·cases h
theorem run_stays {kk:KK} {x y:D} {u v:Value} (h:keq kk x y=some true) (hu:Rel dp F G w u x) (hv:Rel dp F G w v y):(Instr.keyThatStays v u).run P w = .ok u w:=by
 simp only [Instr.keyThatStays,same_key (keq_symm h) hv hu,if_true,Sem.run_pure]
theorem run_setMap {r:Nat} {es:Array MapEntry} {c:Nat} (x:Obj) (h:w.heap[r]? = some (.map es c)):(setObj r x).run P w = .ok () { w with heap:=w.heap.setIfInBounds r x }:=by
 simp only [setObj,Sem.run,h]
theorem wrote_obj {r:Nat} {x y:Obj} (h:w.heap[r]? = some y):Wrote w r x { w with heap:=w.heap.setIfInBounds r x }:=by
 have hlt:=heap_lt h
 exact ⟨by simp [hlt],fun k hk=>by simp [Array.getElem?_setIfInBounds_ne (Ne.symm hk)],by simp,rfl,rfl,rfl⟩
theorem Sim.writeMap (hs:Sim dp F G w S) {id:Nat} {g:Gh} {es es':List (D × D)} {ents':Array MapEntry} (he:sget S id=some (.map es)) (hg:sget G id=some g) (hsz:ents'.size=es'.length)
  (hp:∀ (j:Nat) (e:MapEntry) (d:D × D),ents'[j]? = some e→es'[j]? = some d→e.born=j∧Rel dp F G w e.key d.1∧Rel dp F G w e.val d.2) :
  ∃ w',(setObj g.blk (.map ents' es'.length)).run P w = .ok () w'∧(Sim dp F G w' (sset S id (.map es'))∧Ext F G w S F G w' (sset S id (.map es'))) ∧
   (∀ v d,Rel dp F G w v d→Rel dp F G w' v d):=by
 obtain ⟨ents,e1,e2,e3⟩:=hs.ent id _ g he hg
 have hno:∀ o,¬F g.blk o:=by
  intro o h
  obtain ⟨v,hv⟩:=hs.fcell _ _ h
  simp [World.cell?,e1] at hv
 have hw:=wrote_obj (w:=w) (x:=.map ents' es'.length) e1
 have hm:∀ v d,Rel dp F G w v d→Rel dp F G { w with heap:=w.heap.setIfInBounds g.blk (.map ents' es'.length) } v d:=by
  intro v d h
  refine h.mono (fun _ _ h=>h) (fun _ _ h=>h) fun b o h=>?_
  exact World.cell?_of_block (a:=⟨b,o,none⟩) (hw.other b fun heq=>hno o (heq ▸ h))
 refine ⟨_,run_setMap _ e1,hs.write he hg trivial hw (fun o h=>(hno o h).elim) (fun _ _ h=>h) (fun _ _ h=>.inl h)
  ⟨ents',hw.at_,hsz,fun j e d h1 h2=>?_⟩,hm⟩
 obtain ⟨a1,a2,a3⟩:=hp j e d h1 h2
 exact ⟨a1,hm _ _ a2,hm _ _ a3⟩
theorem posD_spec {kk:KK} {key:D}:∀ {es:List (D × D)} {j:Nat} {p:Nat},posD kk key es j=some (some p)→∃ k v,es[p-j]? = some (k,v)∧j≤p∧keq kk key k=some true
 | [],_,_,h=>by simp [posD] at h
 | (k,v)::es,j,p,h=>by
  simp only [posD] at h
  split at h
  ·rename_i hk
   injection h with h;injection h with h;subst h
   exact ⟨k,v,by simp,Nat.le_refl _,hk⟩
  ·obtain ⟨k',v',h1,h2,h3⟩:=posD_spec h
   refine ⟨k',v',?_,by omega,h3⟩
   rw [show p-j=(p-(j+1))+1 by omega]
   exact h1
  ·cases h
theorem muD_pos {kk:KK} {key v:D}:∀ {es es':List (D × D)} (j:Nat),muD kk key v es=some es'→∃ p,posD kk key es j=some p ∧
  ((p=none∧es'=es++[(key,v)])∨∃ q,p=some (j+q)∧q<es.length∧es'=es.set q (key,v))
 | [],es',j,h=>by
  simp only [muD] at h
  injection h with h
  exact ⟨none,rfl,.inl ⟨rfl,h.symm⟩⟩
 | (k,u)::es,es',j,h=>by
  simp only [muD] at h
  split at h
  ·rename_i hk
   injection h with h
   exact ⟨some j,by simp [posD,hk],.inr ⟨0,rfl,by simp,h.symm⟩⟩
  ·rename_i hk
   cases hr:muD kk key v es with
   | none=>simp [hr] at h
   | some r=>
    simp only [hr,Option.map_some,Option.some.injEq] at h
    subst h
    obtain ⟨p,hp,hh⟩:=muD_pos (j+1) hr
    refine ⟨p,by simp [posD,hk,hp],?_⟩
    rcases hh with ⟨h1,h2⟩ | ⟨q,h1,h2,h3⟩
    ·exact .inl ⟨h1,by rw [h2];rfl⟩
    ·exact .inr ⟨q+1,by rw [h1];congr 1;omega,by simp;omega,by rw [h3];rfl⟩
  ·cases h
theorem putD_set {key:D}:∀ {j:Nat} {es:List (D × D)} {e:D × D},es[j]? = some e→putD key j es=es.set j (key,e.2)
 | _,[],_,h=>by simp at h
 | 0,(k,v)::es,e,h=>by simp at h;subst h;rfl
 | j+1,x::es,e,h=>by simp only [putD,List.set_cons_succ];rw [putD_set (by simpa using h)]
theorem valD_set {v:D}:∀ {j:Nat} {es:List (D × D)} {e:D × D},es[j]? = some e→valD v j es=es.set j (e.1,v)
 | _,[],_,h=>by simp at h
 | 0,(k,u)::es,e,h=>by simp at h;subst h;rfl
 | j+1,x::es,e,h=>by simp only [valD,List.set_cons_succ];rw [valD_set (by simpa using h)]
def EntsOk (dp:Nat→Option Fn) (F:Fix) (G:List Gh) (w:World) (ents:Array MapEntry) (es:List (D × D)):Prop:=
 ents.size=es.length∧∀ (j:Nat) (e:MapEntry) (d:D × D),ents[j]? = some e→es[j]? = some d→e.born=j∧Rel dp F G w e.key d.1∧Rel dp F G w e.val d.2
theorem EntsOk.push {ents:Array MapEntry} {es:List (D × D)} {k v:Value} {x y:D} (h:EntsOk dp F G w ents es) (hk:Rel dp F G w k x) (hv:Rel dp F G w v y) :
  EntsOk dp F G w (ents.push { key:=k,val:=v,born:=es.length }) (es++[(x,y)]):=by
 refine ⟨by simp [h.1],fun j e d he hd=>?_⟩
 rw [Array.getElem?_push] at he
 by_cases hj:j=es.length
 ·subst hj
  rw [if_pos h.1.symm] at he
  injection he with he;subst he
  simp at hd;subst hd
  exact ⟨rfl,hk,hv⟩
 ·rw [h.1,if_neg hj] at he
  have hlt:j<es.length:=by rw [←h.1];exact (Array.getElem?_eq_some_iff.1 he).1
  rw [List.getElem?_append_left hlt] at hd
  exact h.2 j e d he hd
theorem EntsOk.modify {ents:Array MapEntry} {es:List (D × D)} {f:MapEntry→MapEntry} {q:Nat} {y:D × D} (h:EntsOk dp F G w ents es) (hq:q<es.length)
  (hf:∀ e,ents[q]? = some e→(f e).born=e.born∧Rel dp F G w (f e).key y.1∧Rel dp F G w (f e).val y.2):EntsOk dp F G w (ents.modify q f) (es.set q y):=by
 refine ⟨by simp [h.1],fun j e d he hd=>?_⟩
 rw [Array.getElem?_modify] at he
 rw [List.getElem?_set] at hd
 by_cases hj:q=j
 ·subst hj
  have hlt:q<ents.size:=by rw [h.1];exact hq
  have hq':=h.2 q ents[q] es[q] (Array.getElem?_eq_getElem hlt) (List.getElem?_eq_getElem hq)
  simp [hlt] at he
  simp [hq] at hd
  subst he hd
  obtain ⟨a1,a2,a3⟩:=hf ents[q] (Array.getElem?_eq_getElem hlt)
  exact ⟨by rw [a1];exact hq'.1,a2,a3⟩
 ·rw [if_neg hj] at he hd
  exact h.2 j e d he hd
theorem EntsOk.get {ents:Array MapEntry} {es:List (D × D)} (h:EntsOk dp F G w ents es) {q:Nat} {e:D × D} (hq:es[q]? = some e):∃ en,ents[q]? = some en∧en.born=q∧Rel dp F G w en.key e.1∧Rel dp F G w en.val e.2:=by
 have hlt:q<ents.size:=by rw [h.1];exact (List.getElem?_eq_some_iff.1 hq).1
 exact ⟨ents[q],Array.getElem?_eq_getElem hlt,h.2 q _ e (Array.getElem?_eq_getElem hlt) hq⟩
theorem map_ok {id:Nat} {g:Gh} {es:List (D × D)} (hs:Sim dp F G w S) (hsg:sget S id=some (.map es)) (hg:sget G id=some g) :
  ∃ ents:Array MapEntry,w.heap[g.blk]? = some (.map ents es.length)∧EntsOk dp F G w ents es∧EsOk dp F G w ents.toList es:=by
 obtain ⟨ents,h1,h2,h3⟩:=hs.ent id _ g hsg hg
 exact ⟨ents,h1,⟨h2,h3⟩,⟨by simpa using h2,fun j e d he hd=>(h3 j e d (by simpa using he) hd).2⟩⟩
theorem hit_at {ents:Array MapEntry} {p:Nat} {e:MapEntry} (h:ents[p]? = some e):hit ents.toList 0 (some p)=some (p,e.val):=by
 simp [hit,h]
theorem run_update {kk:KK} {t kt et:TypeId} {vk vv:Value} {kd vd:D} {id:Nat} {g:Gh} {es es':List (D × D)} (hs:Sim dp F G w S) (hu:P.underlying t=some (.map kt et)) (hkt:mKey P kt kk=true)
  (hk:isKey kk kd=true) (r2:Rel dp F G w vk kd) (r3:Rel dp F G w vv vd) (hg:sget G id=some g) (hsg:sget S id=some (.map es)) (he:muD kk kd vd es=some es') :
  ∃ w',(Instr.mapUpdate t (.map (some g.blk)) vk vv).run P w = .ok () w'∧(Sim dp F G w' (sset S id (.map es'))∧Ext F G w S F G w' (sset S id (.map es'))):=by
 obtain ⟨ents,h1,h2,h3⟩:=map_ok hs hsg hg
 obtain ⟨p,hp,hh⟩:=muD_pos 0 he
 have hfk:=run_find (P:=P) (t:=kt) hkt r2 hk h3 hp
 have hck:=fun b=>run_checkKey (P:=P) (w:=w) b 9998 hkt hk r2
 rcases hh with ⟨rfl,rfl⟩ | ⟨q,rfl,hq,rfl⟩
 ·obtain ⟨w',a1,a2,_⟩:=hs.writeMap (P:=P) hsg hg (h2.push r2 r3).1 (h2.push r2 r3).2
  refine ⟨w',?_,a2⟩
  simp only [List.length_append,List.length_singleton] at a1
  simp only [Instr.mapUpdate,Sem.run_bind,run_underlying hu,Result.andThen,run_getObj h1,hck,hfk,hit,a1]
 ·obtain ⟨kx,vx,b1,_,b3⟩:=posD_spec hp
  simp only [Nat.zero_add,Nat.sub_zero] at b1 hp hfk
  obtain ⟨en,c1,c2,c3,c4⟩:=h2.get b1
  have hst:=run_stays (P:=P) b3 r2 c3
  have hmod:EntsOk dp F G w (ents.modify q fun e=>{ e with key:=vk,val:=vv }) (es.set q (kd,vd)):=h2.modify hq fun e _=>⟨rfl,r2,r3⟩
  obtain ⟨w',a1,a2,_⟩:=hs.writeMap (P:=P) hsg hg hmod.1 hmod.2
  refine ⟨w',?_,a2⟩
  rw [List.length_set] at a1
  rw [hit_at c1] at hfk
  simp only [Instr.mapUpdate,Sem.run_bind,run_underlying hu,Result.andThen,run_getObj h1,hck,hfk,c1,Option.map_some,Option.getD_some,hst,a1]
theorem ok_mu {kk:KK} {m key v:A} {id:Nat} {es es':List (D × D)} (hm:mR P dp o.op (.mu kk m key v)=true) (hs:Sim dp F G w S) (hf:Fr dp F G w a fr) (hk:isKey kk (av fr key)=true)
  (h1:av fr m = .mp id) (h2:sget S id=some (.map es)) (h3:muD kk (av fr key) (av fr v) es=some es'):OpOk P dp F G w S a o (.tup []) (sset S id (.map es')):=by
 have fin:∀ (t:TypeId) (x i u:Operand),(match P.underlying t with | some (.map kt _)=>mKey P kt kk | _=>false)=true→mA dp x m=true→mA dp i key=true→mA dp u v=true →
   ∃ w',(Instr.mapUpdate t (a.eval x) (a.eval i) (a.eval u)).run P w = .ok () w'∧(Sim dp F G w' (sset S id (.map es'))∧Ext F G w S F G w' (sset S id (.map es'))):=by
  intro t x i u ht hx hi hu
  split at ht
  ·rename_i kt et hut
   have r1:=hf.eval hx
   rw [h1] at r1
   generalize hv1:a.eval x=v1 at r1
   cases r1 with
   | mp _ g hg=>exact run_update hs hut ht hk (hf.eval hi) (hf.eval hu) hg h2 h3
  ·cases ht
 simp only [mR] at hm
 split at hm
 ·rename_i t x i u ho
  simp only [Bool.and_eq_true] at hm
  obtain ⟨w',a1,a2⟩:=fin t x i u hm.1.1.1 hm.1.1.2 hm.1.2 hm.2
  refine opOk_skip ?_ a2
  simp only [execOp,ho,Sem.run_bind,a1,Result.andThen,Sem.run_pure]
 ·rename_i t x i u ho
  simp only [Bool.and_eq_true] at hm
  obtain ⟨w',a1,a2⟩:=fin t x i u hm.1.1.1 hm.1.1.2 hm.1.2 hm.2
  refine opOk_skip ?_ a2
  simp only [execOp,ho,Sem.run_bind,a1,Result.andThen,Sem.run_pure]
 ·cases hm
def mentRes (z key:D) (es:List (D × D)) (id:Nat) (S:Store):Option Nat→Option (D × Store)
 | some j=>match es[j]? with
  | some e=>some (.tup [e.2,.i .i64 j],sset S id (.map (putD key j es)))
  | none=>none
 | none=>some (.tup [z,.i .i64 es.length],sset S id (.map (es++[(key,z)])))
theorem ok_ment {kk:KK} {z:D} {m key:A} {id:Nat} {es:List (D × D)} {p:Option Nat} {r:D × Store} (hm:mR P dp o.op (.ment kk z m key)=true) (hs:Sim dp F G w S) (hf:Fr dp F G w a fr) (hk:isKey kk (av fr key)=true)
  (h1:av fr m = .mp id) (h2:sget S id=some (.map es)) (h3:posD kk (av fr key) es 0=some p) (h4:mentRes z (av fr key) es id S p=some r):OpOk P dp F G w S a o r.1 r.2:=by
 simp only [mR] at hm
 split at hm
 ·rename_i t x i ho
  simp only [Bool.and_eq_true] at hm
  obtain ⟨⟨ht,hx⟩,hi⟩:=hm
  split at ht
  ·rename_i kt et hu
   simp only [Bool.and_eq_true] at ht
   obtain ⟨hkt,hz⟩:=ht
   have r1:=hf.eval hx
   have r2:=hf.eval hi
   rw [h1] at r1
   generalize hv1:a.eval x=v1 at r1
   generalize hv2:a.eval i=v2 at r2
   cases r1 with
   | mp _ g hg=>
    obtain ⟨zv,hzr,hzrel⟩:=run_zero1 (P:=P) (dp:=dp) (F:=F) (G:=G) (w:=w) hz
    obtain ⟨ents,e1,e2,e3⟩:=map_ok hs h2 hg
    have hfk:=run_find (P:=P) (t:=kt) hkt r2 hk e3 h3
    have hck:=fun b=>run_checkKey (P:=P) (w:=w) b 9998 hkt hk r2
    cases p with
    | none=>
     simp only [mentRes] at h4
     injection h4 with h4;subst h4
     obtain ⟨w',a1,a2,a3⟩:=hs.writeMap (P:=P) h2 hg (e2.push r2 hzrel).1 (e2.push r2 hzrel).2
     simp only [List.length_append,List.length_singleton] at a1
     refine opOk_value (v:=.tuple #[zv,goInt es.length]) (w':=w') ?_ a2 (a3 _ _ (rel_two hzrel (.i _ _)))
     simp only [execOp,ho,hv1,hv2,Instr.mapEntry,Sem.run_bind,run_underlying hu,Result.andThen,run_getObj e1,hck,hfk,hit,hzr,a1,Sem.run_pure]
    | some j=>
     simp only [mentRes] at h4
     split at h4
     ·rename_i e hej
      injection h4 with h4;subst h4
      obtain ⟨kx,vx,b1,_,b3⟩:=posD_spec h3
      simp only [Nat.sub_zero] at b1
      rw [hej] at b1
      injection b1 with b1
      obtain ⟨en,c1,c2,c3,c4⟩:=e2.get hej
      rw [b1] at c3
      have hst:=run_stays (P:=P) b3 r2 c3
      have hlt:=(List.getElem?_eq_some_iff.1 hej).1
      have hmod:EntsOk dp F G w (ents.modify j fun e=>{ e with key:=v2 }) (putD (av fr key) j es):=by
       rw [putD_set hej]
       refine e2.modify hlt fun e' he'=>⟨rfl,r2,?_⟩
       rw [c1] at he';injection he' with he';subst he'
       exact c4
      obtain ⟨w',a1,a2,a3⟩:=hs.writeMap (P:=P) h2 hg hmod.1 hmod.2
      rw [putD_set hej,List.length_set] at a1
      rw [hit_at c1] at hfk
      refine opOk_value (v:=.tuple #[en.val,goInt en.born]) (w':=w') ?_ a2 (a3 _ _ (rel_two c4 (by rw [c2];exact .i _ _)))
      simp only [execOp,ho,hv1,hv2,Instr.mapEntry,Sem.run_bind,run_underlying hu,Result.andThen,run_getObj e1,hck,hfk,c1,Option.map_some,Option.getD_some,hst,a1,Sem.run_pure]
     ·cases h4
  ·cases ht
 ·cases hm
theorem ok_est {m j v:A} {id:Nat} {kk:IntKind} {n:Int} {es:List (D × D)} (hm:mR P dp o.op (.est m j v)=true) (hs:Sim dp F G w S) (hf:Fr dp F G w a fr)
  (h1:av fr m = .mp id) (h2:av fr j = .i kk n) (h3:sget S id=some (.map es)) (h4:0≤n) (h5:n<es.length):OpOk P dp F G w S a o (.tup []) (sset S id (.map (valD (av fr v) n.toNat es))):=by
 simp only [mR] at hm
 split at hm
 ·rename_i t x i u ho
  simp only [Bool.and_eq_true] at hm
  obtain ⟨⟨hx,hi⟩,hu⟩:=hm
  have r1:=hf.eval hx
  have r2:=hf.eval hi
  have r3:=hf.eval hu
  rw [h1] at r1
  rw [h2] at r2
  generalize hv1:a.eval x=v1 at r1
  generalize hv2:a.eval i=v2 at r2
  generalize hv3:a.eval u=v3 at r3
  cases r1 with
  | mp _ g hg=>
   cases r2
   obtain ⟨ents,e1,e2,e3⟩:=map_ok hs h3 hg
   have hlt:n.toNat<es.length:=by omega
   have hej:=List.getElem?_eq_getElem hlt
   obtain ⟨en,c1,c2,c3,c4⟩:=e2.get hej
   have hmod:EntsOk dp F G w (ents.modify n.toNat fun e=>{ e with val:=v3 }) (valD (av fr v) n.toNat es):=by
    rw [valD_set hej]
    refine e2.modify hlt fun e' he'=>⟨rfl,?_,r3⟩
    rw [c1] at he';injection he' with he';subst he'
    exact c3
   obtain ⟨w',a1,a2,a3⟩:=hs.writeMap (P:=P) h3 hg hmod.1 hmod.2
   rw [valD_set hej,List.length_set] at a1
   have hlt':n.toNat<ents.size:=by rw [e2.1];exact hlt
   have hidx:ents.findIdx? (fun e=>(e.born:Int) == n)=some n.toNat:=by
    rw [Array.findIdx?_eq_some_iff_getElem]
    have hb:∀ (q:Nat) (hq:q<ents.size),ents[q].born=q:=fun q hq=>
     (e2.2 q ents[q] (es[q]'(by rw [←e2.1];exact hq)) (Array.getElem?_eq_getElem hq) (List.getElem?_eq_getElem (by rw [←e2.1];exact hq))).1
    refine ⟨hlt',?_,fun q hq=>?_⟩
    ·rw [hb];simp;omega
    ·rw [hb];simp;omega
   refine opOk_skip (w':=w') ?_ a2
   simp only [execOp,ho,hv1,hv2,hv3,Instr.entryStore,Sem.run_bind,Result.andThen,run_getObj e1,asInt,asIntOf,Sem.run_pure,Sem.run_map,hidx,a1]
 ·cases hm
theorem Fr.reput {a:Act} {fr:List D} (h:Fr dp F G w a fr) (t:Nat) {d:D} (hv:Rel dp F G w (a.tmps.getD t undef) d):Fr dp F G w a (fset fr t d):=by
 refine ⟨by simp [fset_length,h.len],fun u=>?_⟩
 rw [fget_fset]
 split
 ·rename_i hu
  rw [hu.1];exact hv
 ·exact h.rel u
theorem chunks_get {k:Nat}:∀ {n:Nat} {cs:List D},n * k≤cs.length→(chunks k n cs).length=n∧(∀ x∈chunks k n cs,x.length=k) ∧
  ∀ (j:Nat) (x:List D) (m:Nat) (d:D),(chunks k n cs)[j]? = some x→x[m]? = some d→j<n∧m<k∧cs[j * k+m]? = some d
 | 0,cs,_=>⟨rfl,by simp [chunks],fun j x m d h=>by simp [chunks] at h⟩
 | n+1,cs,h=>by
  rw [Nat.add_mul,Nat.one_mul] at h
  obtain ⟨h1,h2,h3⟩:=chunks_get (k:=k) (n:=n) (cs:=cs.drop k) (by simp;omega)
  have hl:(cs.take k).length=k:=by simp;omega
  refine ⟨by simp [chunks,h1],fun x hx=>?_,fun j x m d hx hd=>?_⟩
  ·simp only [chunks,List.mem_cons] at hx
   rcases hx with rfl | hx
   ·exact hl
   ·exact h2 x hx
  ·simp only [chunks] at hx
   cases j with
   | zero=>
    simp at hx;subst hx
    have hm:=(List.getElem?_eq_some_iff.1 hd).1
    rw [hl] at hm
    rw [List.getElem?_take_of_lt hm] at hd
    exact ⟨by omega,hm,by simpa using hd⟩
   | succ j=>
    obtain ⟨a1,a2,a3⟩:=h3 j x m d (by simpa using hx) hd
    refine ⟨by omega,a2,?_⟩
    rw [List.getElem?_drop] at a3
    rw [Nat.add_mul,Nat.one_mul,show j * k+k+m=k+(j * k+m) by omega]
    exact a3
theorem ok_fz {t:Nat} {r:D × Store} (hs:Sim dp F G w S) (hf:Fr dp F G w a fr) (h:fzD (fget fr t) S=some r) :
  ∃ F',Sim dp F' G w r.2∧Ext F G w S F' G w r.2∧Fr dp F' G w a (fset fr t r.1):=by
 have r1:=hf.rel t
 unfold fzD at h
 split at h
 ·rename_i k id o n heq
  rw [heq] at r1
  split at h
  ·rename_i cs hsg
   split at h
   ·rename_i hle
    injection h with h;subst h
    generalize hv:a.tmps.getD t undef=v at r1
    cases r1 with
    | ar _ _ _ _ cap g hg hn=>
     obtain ⟨vs,T,e1,⟨e2,_⟩,e3,e4,e5⟩:=hs.ent id _ g hsg hg
     have hn:=hn.1
     obtain ⟨c1,c2,c3⟩:=chunks_get (k:=k) (n:=n) (cs:=cs.drop o) (by simp;omega)
     have hsim:=hs.write (F':=fun b p=>F b p∨(b=g.blk∧o≤p∧p<o+n * k)) (e':=.gone) hsg hg trivial (x:=.cells vs T (0,0)) ⟨e1,fun _ _=>rfl,rfl,rfl,rfl,rfl⟩ (fun _ _=>rfl) (fun _ _ h=>.inl h) (fun b p h=>by
      rcases h with h | ⟨rfl,h1,h2⟩
      ·exact .inl h
      ·have:p<vs.size:=by omega
       exact .inr ⟨rfl,vs[p],by rw [cell_box e1];exact Array.getElem?_eq_getElem this⟩) trivial
     refine ⟨_,hsim.1,hsim.2,(hf.ext hsim.2).reput t ?_⟩
     rw [hv]
     have:=Rel.sl (dp:=dp) (F:=fun b p=>F b p∨(b=g.blk∧o≤p∧p<o+n * k)) (G:=G) (w:=w) k (chunks k n (cs.drop o)) .ro g.blk o cap (fun j m=>vs.getD (o+j * k+m) undef) c2 (by omega) (fun j x m d hx hd=>by
       obtain ⟨b1,b2,b3⟩:=c3 j x m d hx hd
       have hlt:=lt_mul b1 b2
       have hvs:o+j * k+m<vs.size:=by omega
       have hg':vs.getD (o+j * k+m) undef=vs[o+j * k+m]:=by simp [Array.getD,hvs]
       rw [hg']
       exact ⟨.inr ⟨rfl,by omega,by omega⟩,by rw [cell_box e1];exact Array.getElem?_eq_getElem hvs,e4 _ (by simp)⟩) (fun j x m d hx hd=>by
       obtain ⟨b1,b2,b3⟩:=c3 j x m d hx hd
       have hlt:=lt_mul b1 b2
       have hvs:o+j * k+m<vs.size:=by omega
       have hg':vs.getD (o+j * k+m) undef=vs[o+j * k+m]:=by simp [Array.getD,hvs]
       rw [hg']
       rw [List.getElem?_drop,←Nat.add_assoc] at b3
       exact (e5 _ _ d (Array.getElem?_eq_getElem hvs) b3).ext hsim.2) trivial
     rw [c1] at this
     exact this
   ·cases h
  ·cases h
 ·rename_i k nl xs ow heq
  injection h with h;subst h
  exact ⟨F,hs,Ext.refl _ _ _ _,hf.reput t (by have:=r1.strip;rw [heq] at this;exact this)⟩
 ·cases h
end
end Go.Proofs.YtjniafcnjbbomaaGreatDoor.DE

namespace Go.Proofs.YtjniafcnjbbomaaGreatDoor.DE
open Go
section
variable {P:Program} {dp:Nat→Option Fn} {F F':Fix} {G G':List Gh} {w w':World} {S S':Store} {a:Act} {fr:List D} {o:Oper} {d:D}
theorem bget (l:List UInt8) (i:Nat):(⟨l.toArray⟩:ByteArray)[i]! = l[i]!:=by
 have hs:(⟨l.toArray⟩:ByteArray).size=l.length:=by show l.toArray.size=_;simp
 by_cases h:i<l.length
 ·rw [getElem!_pos (⟨l.toArray⟩:ByteArray) i (by rw [hs];exact h),getElem!_pos l i h]
  rfl
 ·rw [getElem!_neg (⟨l.toArray⟩:ByteArray) i (by rw [hs];exact h),getElem!_neg l i h]
def cmpL:List UInt8→List UInt8→Int
 | [],[]=>0
 | [],_::_=>-1
 | _::_,[]=>1
 | x::a,y::b=>if x == y then cmpL a b else if x<y then -1 else 1
theorem cmpL_find:∀ (a b:List UInt8),(match (List.range (min a.length b.length)).find? fun i=>a[i]! != b[i]! with
  | some i=>if a[i]! < b[i]! then (-1:Int) else 1
  | none=>if a.length<b.length then -1 else if a.length > b.length then 1 else 0)=cmpL a b
 | [],[]=>rfl
 | [],_::_=>by simp [cmpL]
 | _::_,[]=>by simp [cmpL]
 | x::a,y::b=>by
  have ih:=cmpL_find a b
  have e:min (x::a).length (y::b).length=min a.length b.length+1:=by simp only [List.length_cons];omega
  rw [e,List.range_succ_eq_map,List.find?_cons]
  simp only [cmpL]
  by_cases hxy:x=y
  ·subst hxy
   simp only [List.getElem!_cons_zero,bne_self_eq_false,beq_self_eq_true,if_true,List.find?_map]
   rw [←ih]
   have e2:((fun i=>(x::a)[i]! != (x::b)[i]!) ∘ Nat.succ)=fun i=>a[i]! != b[i]!:=by
    funext i
    simp
   rw [e2]
   cases (List.range (min a.length b.length)).find? fun i=>a[i]! != b[i]! with
   | none=>simp
   | some i=>simp
  ·have h1:(x != y)=true:=by simpa using hxy
   have h2:(x == y)=false:=by simpa using hxy
   simp only [List.getElem!_cons_zero,h1,h2,Bool.false_eq_true,if_false]
theorem cmpL_less:∀ (a b:List UInt8),cmpL a b=(if Op.bytesLess a b then -1 else if a == b then 0 else 1:Int)
 | [],[]=>rfl
 | [],_::_=>rfl
 | _::_,[]=>by simp [cmpL,Op.bytesLess]
 | x::a,y::b=>by
  simp only [cmpL,Op.bytesLess,cmpL_less a b]
  by_cases hxy:x=y
  ·subst hxy
   have:¬(x<x):=UInt8.lt_irrefl x
   simp [this]
  ·have h2:(x == y)=false:=by simpa using hxy
   by_cases hlt:x<y
   ·simp [h2,hlt]
   ·simp [h2,hlt,hxy]
theorem cmp_spec (a b:List UInt8):Extern.BytealgCompare.cmp ⟨a.toArray⟩ ⟨b.toArray⟩=(if Op.bytesLess a b then -1 else if a == b then 0 else 1:Int):=by
 rw [←cmpL_less,←cmpL_find]
 have ha:(⟨a.toArray⟩:ByteArray).size=a.length:=by show a.toArray.size=_;simp
 have hb:(⟨b.toArray⟩:ByteArray).size=b.length:=by show b.toArray.size=_;simp
 simp only [Extern.BytealgCompare.cmp,ha,hb,bget]
 rfl
theorem ok_cmps {x y:A} {l m:List UInt8} (hm:mR P dp o.op (.cmps x y)=true) (hf:Fr dp F G w a fr) (h1:av fr x = .s l) (h2:av fr y = .s m) :
  Pur P dp F G w a o (.i .i64 (if Op.bytesLess l m then -1 else if l == m then 0 else 1)):=by
 simp only [mR] at hm
 split at hm
 ·rename_i c ho
  simp only [Bool.and_eq_true] at hm
  obtain ⟨hc,hargs⟩:=hm
  split at hc
  ·rename_i f hcal
   split at hc
   ·rename_i fn hfn
    simp only [Bool.and_eq_true,beq_iff_eq] at hc
    obtain ⟨⟨hname,hbody⟩,hnext'⟩:=hc
    obtain ⟨e1,e2,e3⟩:=hf.evals hargs
    have hl:c.args.toList.length=2:=by rw [e1];rfl
    match hx:c.args.toList,hl with
    | [x1,x2],_=>
     rw [hx] at hargs
     simp only [mAs,Bool.and_eq_true] at hargs
     have r1:=hf.eval hargs.1
     have r2:=hf.eval hargs.2.1
     rw [h1] at r1;rw [h2] at r2
     generalize hv1:a.eval x1=v1 at r1
     generalize hv2:a.eval x2=v2 at r2
     cases r1;cases r2
     have hargs':c.args.map a.eval = #[.string ⟨l.toArray⟩,.string ⟨m.toArray⟩]:=by
      apply Array.ext'
      simp [hx,hv1,hv2]
     have hfind:Extern.find fn=some Extern.BytealgCompare.compare:=by
      unfold Extern.find
      rw [hname]
      rfl
     have hnext:Extern.findNext fn=none:=by simpa using hnext'
     refine ⟨goInt (Extern.BytealgCompare.cmp ⟨l.toArray⟩ ⟨m.toArray⟩),?_,by rw [cmp_spec];exact .i _ _⟩
     have hrun:=run_callFunc_extern (P:=P) hfn (by rw [hname];rfl) hbody hnext hfind #[.string ⟨l.toArray⟩,.string ⟨m.toArray⟩] w
     have hcmp:(Extern.BytealgCompare.compare #[.string ⟨l.toArray⟩,.string ⟨m.toArray⟩]).run P w = .ok (goInt (Extern.BytealgCompare.cmp ⟨l.toArray⟩ ⟨m.toArray⟩)) w:=rfl
     rw [hcmp] at hrun
     simp only [execOp,ho,resolve,hcal,Act.eval,Deferred.ofValue,Sem.run_bind,Sem.run_pure,Result.andThen,invoke,hargs',Array.append_empty,Array.empty_append,hrun]
   ·cases hc
  ·cases hc
 ·cases hm
theorem rel_news {k k2:Nat} {nl:Bool} {ys:List (List D)} {ow:Own} {v:Value} (h:Rel dp F G w v (.sl k2 nl ys ow)) (hk:k2=k∨ys=[]) (hk0:0<k) :
  ∃ (news:List Value) (base:Option Addr) (cap:Nat),v = .slice base ys.length cap∧news.length=ys.length * k∧(∀ u∈news,u.oneCell'=true)∧RowOk dp F G w k news.toArray ys ∧
   ∀ w2:World,(∀ b o,F b o→w2.cell? ⟨b,o,none⟩=w.cell? ⟨b,o,none⟩)→(Builtin.firstCells k ys.length v).run P w2 = .ok news.toArray w2:=by
 cases h with
 | nil=>exact ⟨[],none,0,rfl,by simp,by simp,⟨by simp,fun j x m d h=>by simp at h⟩,fun w2 _=>by simp [Builtin.firstCells]⟩
 | emp _ ad cap=>exact ⟨[],some ad,cap,rfl,by simp,by simp,⟨by simp,fun j x m d h=>by simp at h⟩,fun w2 _=>run_firstCells_some (P:=P) w2 k 0 ad 0 cap [] (by simp) (by simp)⟩
 | sl _ _ _ blk off cap c hkl hcap h1 h2 ho=>
  by_cases hys:ys=[]
  ·subst hys
   refine ⟨[],some ⟨blk,off,none⟩,cap,rfl,by simp,by simp,⟨by simp,fun j x m d h=>by simp at h⟩,fun w2 _=>?_⟩
   exact run_firstCells_some (P:=P) w2 k 0 ⟨blk,off,none⟩ 0 cap [] (by simp) (by simp)
  ·have hk2:k2=k:=hk.resolve_right hys
   subst hk2
   have hmem:∀ q,q<ys.length * k2→q / k2<ys.length∧q % k2<k2∧q / k2 * k2+q % k2=q:=fun q hq=>
    ⟨(Nat.div_lt_iff_lt_mul hk0).2 hq,Nat.mod_lt _ hk0,by rw [Nat.mul_comm];exact Nat.div_add_mod q k2⟩
   have hcell:∀ q,q<ys.length * k2→F blk (off+q)∧w.cell? ⟨blk,off+q,none⟩=some (c (q / k2) (q % k2))∧(c (q / k2) (q % k2)).oneCell'=true:=by
    intro q hq
    obtain ⟨b1,b2,b3⟩:=hmem q hq
    have hl:=hkl ys[q / k2] (by simp)
    have:=h1 (q / k2) ys[q / k2] (q % k2) (ys[q / k2][q % k2]'(by omega)) (List.getElem?_eq_getElem b1) (List.getElem?_eq_getElem (by omega))
    rw [Nat.add_assoc,b3] at this
    exact this
   refine ⟨(List.range (ys.length * k2)).map fun q=>c (q / k2) (q % k2),some ⟨blk,off,none⟩,cap,rfl,by simp,fun u hu=>?_,⟨hkl,fun j x m d hx hd=>?_⟩,fun w2 hw2=>?_⟩
   ·obtain ⟨q,hq,rfl⟩:=List.mem_map.1 hu
    exact (hcell q (List.mem_range.1 hq)).2.2
   ·have hj:=(List.getElem?_eq_some_iff.1 hx).1
    have hm:m<k2:=by
     have:=(List.getElem?_eq_some_iff.1 hd).1
     rw [hkl x (List.mem_of_getElem? hx)] at this
     exact this
    have hlt:=lt_mul hj hm
    have hdiv:(j * k2+m) / k2=j:=by
     rw [Nat.add_comm,Nat.add_mul_div_right _ _ hk0,Nat.div_eq_of_lt hm,Nat.zero_add]
    refine ⟨c j m,?_,(h1 j x m d hx hd).2.2,h2 j x m d hx hd⟩
    simp [hlt,hdiv,mod_row hm]
   ·refine run_firstCells_some (P:=P) w2 k2 ys.length ⟨blk,off,none⟩ ys.length cap _ (by simp) fun j u hu=>?_
    have hj:=(List.getElem?_eq_some_iff.1 hu).1
    simp only [List.length_map,List.length_range] at hj
    obtain ⟨b1,b2,b3⟩:=hcell j hj
    simp [hj] at hu
    rw [addr_add,hw2 _ _ b1,b2,hu]
theorem run_append_types {t u ty e e':TypeId} (ht:P.underlying t=some (.slice e)) (hu:P.underlying u=some (.slice e')) (x y:Value) :
  (Builtin.append_ #[t,u] ty #[x,y]).run P w=(Builtin.append_ #[t,t] ty #[x,y]).run P w:=by
 cases x <;> simp [Builtin.append_,run_underlying ht,run_underlying hu]
theorem run_app_room {t ty e:TypeId} {i:TypeInfo} {b:Nat} {off n cap m c2:Nat} {b2:Option Addr} {news:List Value} (ht:P.underlying t=some (.slice e)) (hi:P.info? e=some i)
  (hroom:n+m≤cap) (hn:(Builtin.firstCells i.size m (.slice b2 m c2)).run P w = .ok news.toArray w) (hst:(storeCells ⟨b,off+n * i.size,none⟩ news).run P w = .ok () w') :
  (Builtin.append_ #[t,t] ty #[.slice (some ⟨b,off,none⟩) n cap,.slice b2 m c2]).run P w = .ok (.slice (some ⟨b,off,none⟩) (n+m) cap) w':=by
 simp [Builtin.append_,run_underlying ht,sizeOf,typeInfo,hi,Builtin.lenOf,hroom,hn,addr_add,hst]
theorem run_app_none {t ty e:TypeId} {i:TypeInfo} {n m cap c2:Nat} {b2:Option Addr} {news:List Value} (ht:P.underlying t=some (.slice e)) (hi:P.info? e=some i)
  (hroom:n+m≤cap) (hn:(Builtin.firstCells i.size m (.slice b2 m c2)).run P w = .ok news.toArray w) :
  (Builtin.append_ #[t,t] ty #[.slice none n cap,.slice b2 m c2]).run P w = .ok (.slice none (n+m) cap) w:=by
 simp [Builtin.append_,run_underlying ht,sizeOf,typeInfo,hi,Builtin.lenOf,hroom,hn]
theorem run_app_grow {t ty e:TypeId} {i:TypeInfo} {z:Value} {n m cap c2:Nat} {b1 b2:Option Addr} {olds news:List Value} (ht:P.underlying t=some (.slice e)) (hi:P.info? e=some i) (hz:i.zero=some z)
  (hroom:cap<n+m) (hb:i.bytes≤65536) (hsm:n+m≤maxLenD) (ho:(Builtin.firstCells i.size n (.slice b1 n cap)).run P w.drew = .ok olds.toArray w.drew) (hn:(Builtin.firstCells i.size m (.slice b2 m c2)).run P w.drew = .ok news.toArray w.drew) :
  (Builtin.append_ #[t,t] ty #[.slice b1 n cap,.slice b2 m c2]).run P w =
   .ok (.slice (some ⟨w.heap.size,0,none⟩) (n+m) (grownCap w (n+m) cap e)) (w.drew.alloc (.cells (olds.toArray++news.toArray++Builtin.zeroCells z.cells (grownCap w (n+m) cap e-(n+m))) e)):=by
 have hn1:¬(n+m≤cap):=by omega
 simp only [maxLenD] at hsm
 have h63':¬(9223372036854775807<((n:Int)+(m:Int))):=by omega
 have h48':¬(281474976710656<Builtin.nextslicecap (n+m) cap * i.bytes):=by
  have h1:=nextslicecap_le (need:=n+m) (old:=cap) (by omega)
  have h2:Builtin.nextslicecap (n+m) cap * i.bytes≤2097152 * 65536:=Nat.mul_le_mul (by omega) hb
  omega
 simp [Builtin.append_,run_underlying ht,sizeOf,typeInfo,zeroValue,hi,hz,Builtin.lenOf,hn1,h63',h48',Question.forced,ho,hn,newRow,grownCap]
 congr 2
 apply Array.ext'
 simp [List.append_assoc]
theorem getElem?_app3 (xs ys zs:Array Value) (q:Nat):(xs++ys++zs)[q]? = if q<xs.size then xs[q]? else if q<xs.size+ys.size then ys[q-xs.size]? else zs[q-xs.size-ys.size]?:=by
 rw [Array.getElem?_append]
 simp only [Array.size_append]
 by_cases h1:q<xs.size
 ·rw [if_pos (by omega),if_pos h1,Array.getElem?_append_left h1]
 ·rw [if_neg h1]
  by_cases h2:q<xs.size+ys.size
  ·rw [if_pos h2,if_pos h2,Array.getElem?_append_right (by omega)]
  ·rw [if_neg h2,if_neg h2]
   congr 1
   omega
theorem RowOk.append {k:Nat} {olds news rest:Array Value} {xs ys:List (List D)} (h1:RowOk dp F G w k olds xs) (h2:RowOk dp F G w k news ys) (l1:olds.size=xs.length * k) (l2:news.size=ys.length * k) :
  RowOk dp F G w k (olds++news++rest) (xs++ys):=by
 refine ⟨fun x hx=>?_,fun j x m d hx hd=>?_⟩
 ·rcases List.mem_append.1 hx with hx | hx
  ·exact h1.1 x hx
  ·exact h2.1 x hx
 ·by_cases hj:j<xs.length
  ·rw [List.getElem?_append_left hj] at hx
   obtain ⟨v,a1,a2,a3⟩:=h1.2 j x m d hx hd
   have hm:m<k:=by
    have:=(List.getElem?_eq_some_iff.1 hd).1
    rw [h1.1 x (List.mem_of_getElem? hx)] at this
    exact this
   have hlt:=lt_mul hj hm
   refine ⟨v,?_,a2,a3⟩
   rw [getElem?_app3,if_pos (by omega)]
   exact a1
  ·rw [List.getElem?_append_right (by omega)] at hx
   obtain ⟨v,a1,a2,a3⟩:=h2.2 _ x m d hx hd
   have hj2:=(List.getElem?_eq_some_iff.1 hx).1
   have hm:m<k:=by
    have:=(List.getElem?_eq_some_iff.1 hd).1
    rw [h2.1 x (List.mem_of_getElem? hx)] at this
    exact this
   have hlt:=lt_mul hj2 hm
   have e:j * k=xs.length * k+(j-xs.length) * k:=by rw [←Nat.add_mul];congr 1;omega
   refine ⟨v,?_,a2,a3⟩
   rw [getElem?_app3,if_neg (by omega),if_pos (by omega)]
   rw [show j * k+m-olds.size=(j-xs.length) * k+m by omega]
   exact a1
theorem sset_consume {t:Nat} (id:Nat) (e:Ent) (h:sget (sset S t (.tok false)) id=some e):sget S id=some e∨¬holds e:=by
 rw [sget_sset] at h
 split at h
 ·injection h with h;subst h
  exact .inr (fun h=>h)
 ·exact .inl h
theorem Sim.extend (hs:Sim dp F G w S) {t:Nat} {g:Gh} {x:Obj} {lo:Nat} (ht:sget S t=some (.tok true)) (hg:sget G t=some g) (hw:Wrote w g.blk x w')
  (hcell:∀ o,F g.blk o→w'.cell? ⟨g.blk,o,none⟩=w.cell? ⟨g.blk,o,none⟩) (hlo:g.lo≤lo) (hex:∀ o,g.lo≤o→o<lo→∃ v,w'.cell? ⟨g.blk,o,none⟩=some v)
  (hx:∃ vs T,x = .cells vs T (0,0)∧g.hi≤vs.size) :
  Sim dp (fun b o=>F b o∨(b=g.blk∧g.lo≤o∧o<lo)) (⟨g.blk,lo,g.hi⟩::G) w' (.tok true::sset S t (.tok false)) ∧
  Ext F G w S (fun b o=>F b o∨(b=g.blk∧g.lo≤o∧o<lo)) (⟨g.blk,lo,g.hi⟩::G) w' (.tok true::sset S t (.tok false)):=by
 obtain ⟨_,_,_,_,hfree⟩:=hs.ent t _ g ht hg
 have hlen:(sset S t (.tok false)).length=S.length:=sset_length _ _ _
 refine hs.step (fun b=>b=g.blk) (by simp [hlen,hs.len]) (fun id g' h=>by rw [sget_cons _ _ _ (sget_lt h)];exact h) (fun _ _ h=>.inl h)
  (fun b o h=>?_) (fun b o h=>?_) (fun b _ hb=>hw.other b hb) (fun b hb=>.inl ⟨t,_,g,ht,trivial,hg,hb.symm⟩) ?_ (by rw [hw.size];exact Nat.le_refl _) hw.os hw.tape hw.output
 ·by_cases hb:b=g.blk
  ·subst hb;exact hcell o h
  ·exact World.cell?_of_block (a:=⟨b,o,none⟩) (hw.other b hb)
 ·rcases h with h | ⟨rfl,h1,h2⟩
  ·exact .inl h
  ·exact .inr ⟨rfl,hex o h1 h2⟩
 ·have hold:∀ {j e' g'},j≠S.length→sget (.tok true::sset S t (.tok false)) j=some e'→sget (⟨g.blk,lo,g.hi⟩::G) j=some g'→holds e'→sget S j=some e'∧sget G j=some g'∧g'.blk≠g.blk:=by
   intro j e' g' hj h1 h2 hh
   simp only [sget] at h1 h2
   rw [hlen,if_neg hj] at h1
   rw [hs.len,if_neg hj] at h2
   rw [sget_sset] at h1
   split at h1
   ·injection h1 with h1;subst h1;exact hh.elim
   ·rename_i hjt
    refine ⟨h1,h2,hs.sep j t e' _ g' g ?_ h1 ht hh trivial h2 hg⟩
    intro heq
    exact hjt ⟨heq,heq ▸ sget_lt h1⟩
  intro id e' g' h1 h2
  by_cases hid:id=S.length
  ·have e1:e' = .tok true:=by rw [hid,←hlen,sget_top] at h1;injection h1 with h1;exact h1.symm
   have e2:g'=⟨g.blk,lo,g.hi⟩:=by rw [hid,←hs.len,sget_top] at h2;injection h2 with h2;exact h2.symm
   refine .inr (.inr ?_)
   rw [e1,e2]
   obtain ⟨vs,T,rfl,hhi⟩:=hx
   refine ⟨rfl,⟨vs,T,hw.at_,hhi,fun o ho h=>?_⟩,fun j e'' g'' hj h3 h4 hh=>(hold (by omega) h3 h4 hh).2.2⟩
   simp only at ho
   rcases h with h | ⟨_,_,h⟩
   ·exact hfree o (by omega) h
   ·omega
  ·by_cases hh:holds e'
   ·obtain ⟨a1,a2,a3⟩:=hold hid h1 h2 hh
    exact .inr (.inl ⟨a1,a2,a3⟩)
   ·exact .inl hh
theorem rel_sl {k:Nat} {nl:Bool} {xs:List (List D)} {ow:Own} {v:Value} (h:Rel dp F G w v (.sl k nl xs ow)) (hno:nl=true∨ow ≠ .ro) :
  (nl=true∧xs=[]∧v = .slice none 0 0)∨(nl=false∧∃ (blk off cap:Nat) (c:Nat→Nat→Value),v = .slice (some ⟨blk,off,none⟩) xs.length cap∧(∀ x∈xs,x.length=k)∧xs.length≤cap ∧
   (∀ (j:Nat) (x:List D) (m:Nat) (d:D),xs[j]? = some x→x[m]? = some d→F blk (off+j * k+m)∧w.cell? ⟨blk,off+j * k+m,none⟩=some (c j m)∧(c j m).oneCell'=true) ∧
   (∀ (j:Nat) (x:List D) (m:Nat) (d:D),xs[j]? = some x→x[m]? = some d→Rel dp F G w (c j m) d)∧OwnOk G blk (off+xs.length * k) (off+cap * k) cap ow):=by
 cases h with
 | nil=>exact .inl ⟨rfl,rfl,rfl⟩
 | emp _ ad cap=>simp at hno
 | sl _ _ _ blk off cap c hkl hcap h1 h2 ho=>exact .inr ⟨rfl,blk,off,cap,c,rfl,hkl,hcap,h1,h2,ho⟩
theorem appA_cases {k id n:Nat} {ys:List (List D)} {r:D × Store} (h:appA k id n ys S=some r) :
  ∃ cs,sget S id=some (.box cs)∧n * k≤cs.length∧r=(.ar k S.length 0 (n+ys.length),.box (cs.take (n * k)++ys.flatten)::sset S id .gone):=by
 unfold appA at h
 split at h
 ·rename_i cs hcs
  split at h
  ·rename_i hle
   injection h with h
   exact ⟨cs,hcs,hle,h.symm⟩
  ·cases h
 ·cases h
theorem appD_ar {k:Nat} {arr:Bool} {k1 id o n:Nat} {y:D} {r:D × Store} (h:appD k arr (.ar k1 id o n) y S=some r) :
  ∃ k2 nl2 ys ow2,k1=k∧o=0∧y = .sl k2 nl2 ys ow2∧(k2=k∨ys=[])∧n+ys.length≤maxLenD∧appA k id n ys S=some r:=by
 unfold appD at h
 split at h
 ·rename_i ow2 e1
  injection e1 with a1 a2 a3 a4
  subst a1 a2 a3 a4
  split at h
  ·rename_i hc
   exact ⟨_,_,_,_,hc.1,hc.2.2.2,rfl,hc.2.1,hc.2.2.1,h⟩
  ·cases h
 ·rename_i e1;cases e1
 ·cases h
theorem sset_gone {t:Nat} (id:Nat) (e:Ent) (h:sget (sset S t .gone) id=some e):sget S id=some e∨¬holds e:=by
 rw [sget_sset] at h
 split at h
 ·injection h with h;subst h
  exact .inr (fun h=>h)
 ·exact .inl h
theorem Sim.reown (hs:Sim dp F G w S) {t:Nat} {g:Gh} {x:Obj} {cs zs:List D} (ht:sget S t=some (.box cs)) (hg:sget G t=some g) (hw:Wrote w g.blk x w')
  (he:EntOk dp F (⟨g.blk,0,g.hi⟩::G) w' ⟨g.blk,0,g.hi⟩ (.box zs)) :
  Sim dp F (⟨g.blk,0,g.hi⟩::G) w' (.box zs::sset S t .gone)∧Ext F G w S F (⟨g.blk,0,g.hi⟩::G) w' (.box zs::sset S t .gone):=by
 obtain ⟨_,_,_,_,hfree,_⟩:=hs.ent t _ g ht hg
 have hlen:(sset S t .gone).length=S.length:=sset_length _ _ _
 refine hs.step (fun b=>b=g.blk) (by simp [hlen,hs.len]) (fun id g' h=>by rw [sget_cons _ _ _ (sget_lt h)];exact h) (fun _ _ h=>h)
  (fun b o h=>?_) (fun b o h=>.inl h) (fun b _ hb=>hw.other b hb) (fun b hb=>.inl ⟨t,_,g,ht,trivial,hg,hb.symm⟩) ?_ (by rw [hw.size];exact Nat.le_refl _) hw.os hw.tape hw.output
 ·by_cases hb:b=g.blk
  ·subst hb;exact (hfree o h).elim
  ·exact World.cell?_of_block (a:=⟨b,o,none⟩) (hw.other b hb)
 ·have hold:∀ {j e' g'},j≠S.length→sget (.box zs::sset S t .gone) j=some e'→sget (⟨g.blk,0,g.hi⟩::G) j=some g'→holds e'→sget S j=some e'∧sget G j=some g'∧g'.blk≠g.blk:=by
   intro j e' g' hj h1 h2 hh
   simp only [sget] at h1 h2
   rw [hlen,if_neg hj] at h1
   rw [hs.len,if_neg hj] at h2
   rw [sget_sset] at h1
   split at h1
   ·injection h1 with h1;subst h1;exact hh.elim
   ·rename_i hjt
    refine ⟨h1,h2,hs.sep j t e' _ g' g ?_ h1 ht hh trivial h2 hg⟩
    intro heq
    exact hjt ⟨heq,heq ▸ sget_lt h1⟩
  intro id e' g' h1 h2
  by_cases hid:id=S.length
  ·have e1:e' = .box zs:=by rw [hid,←hlen,sget_top] at h1;injection h1 with h1;exact h1.symm
   have e2:g'=⟨g.blk,0,g.hi⟩:=by rw [hid,←hs.len,sget_top] at h2;injection h2 with h2;exact h2.symm
   refine .inr (.inr ?_)
   rw [e1,e2]
   exact ⟨rfl,he,fun j e'' g'' hj h3 h4 hh=>(hold (by omega) h3 h4 hh).2.2⟩
  ·by_cases hh:holds e'
   ·obtain ⟨a1,a2,a3⟩:=hold hid h1 h2 hh
    exact .inr (.inl ⟨a1,a2,a3⟩)
   ·exact .inl hh
theorem appD_cases {k:Nat} {arr:Bool} {x y:D} {r:D × Store} (hx:∀ a b c d,x ≠ .ar a b c d) (h:appD k arr x y S=some r) :
  ∃ nl xs ow k2 nl2 ys ow2,x = .sl k nl xs ow∧y = .sl k2 nl2 ys ow2∧(k2=k∨ys=[])∧xs.length+ys.length≤maxLenD ∧
   (
    (∃ t,ow = .tok t∧sget S t=some (.tok true)∧arr=false∧nl=false∧r=(.sl k false (xs++ys) (.tok S.length),.tok true::sset S t (.tok false))) ∨
    ((
     ow = .cap0∨nl=true)∧((ys=[]∧r=(.sl k nl xs ow,S))∨(0<ys.length∧arr=true∧r=(.ar k S.length 0 ys.length,.box ys.flatten::S)) ∨
     (0<ys.length∧arr=false∧r=(.sl k false ys (.tok S.length),.tok true::S))))):=by
 unfold appD at h
 split at h
 ·exact absurd rfl (hx _ _ _ _)
 ·rename_i k1 nl xs ow k2 nl2 ys ow2
  split at h
  ·rename_i hcond
   obtain ⟨rfl,hk2,hlen⟩:=hcond
   refine ⟨nl,xs,ow,k2,nl2,ys,ow2,rfl,rfl,hk2,hlen,?_⟩
   have rest:∀ c:Bool,(c=true→ow = .cap0∨nl=true)→(if c=true then (if ys.isEmpty then some (D.sl k1 nl xs ow,S)
     else if arr then some (.ar k1 S.length 0 ys.length,.box ys.flatten::S)
     else some (.sl k1 false ys (.tok S.length),.tok true::S)) else none)=some r →
     ((ow = .cap0∨nl=true)∧((ys=[]∧r=(.sl k1 nl xs ow,S))∨(0<ys.length∧arr=true∧r=(.ar k1 S.length 0 ys.length,.box ys.flatten::S)) ∨
     (0<ys.length∧arr=false∧r=(.sl k1 false ys (.tok S.length),.tok true::S)))):=by
    intro c hc h
    split at h
    ·rename_i hct
     refine ⟨hc hct,?_⟩
     split at h
     ·rename_i hemp
      injection h with h
      exact .inl ⟨by simpa using hemp,h.symm⟩
     ·rename_i hne
      have hpos:0<ys.length:=by
       cases ys with
       | nil=>simp at hne
       | cons _ _=>simp
      split at h
      ·rename_i ha
       injection h with h
       exact .inr (.inl ⟨hpos,ha,h.symm⟩)
      ·rename_i ha
       injection h with h
       exact .inr (.inr ⟨hpos,by simpa using ha,h.symm⟩)
    ·cases h
   cases ow with
   | ro=>exact .inr (rest nl (fun h=>.inr h) h)
   | cap0=>exact .inr (rest true (fun h=>.inl rfl) h)
   | tok t=>
    simp only at h
    split at h
    ·rename_i htok
     split at h
     ·cases h
     ·rename_i hn
      simp only [Bool.or_eq_true,not_or,Bool.not_eq_true] at hn
      injection h with h
      exact .inl ⟨t,rfl,htok,hn.1,hn.2,h.symm⟩
    ·cases h
  ·cases h
 ·cases h
theorem ok_app {k:Nat} {arr:Bool} {x y:A} {r:D × Store} (hm:mR P dp o.op (.app k arr x y)=true) (hs:Sim dp F G w S) (hf:Fr dp F G w a fr) (he:appD k arr (av fr x) (av fr y) S=some r) :
  OpOk P dp F G w S a o r.1 r.2:=by
 simp only [mR] at hm
 split at hm
 ·rename_i c ho
  simp only [Bool.and_eq_true] at hm
  obtain ⟨⟨hb,ht⟩,hargs⟩:=hm
  split at hb
  ·rename_i hcal
   split at ht
   ·rename_i t u hts
    simp only [Bool.and_eq_true] at ht
    obtain ⟨ht,hu⟩:=ht
    split at ht
    ·rename_i e hut
     simp only [Bool.and_eq_true,decide_eq_true_eq] at ht
     obtain ⟨⟨hsz,hk0⟩,hinfo⟩:=ht
     split at hinfo
     ·rename_i i hi
      simp only [Bool.and_eq_true,decide_eq_true_eq] at hinfo
      obtain ⟨hbytes,hzz⟩:=hinfo
      split at hzz
      ·rename_i z hz
       simp only [beq_iff_eq,Bool.and_eq_true,List.all_eq_true] at hzz
       obtain ⟨hzz,hzone⟩:=hzz
       have hisz:i.size=k:=by
        unfold mSz at hsz
        rw [hi] at hsz
        simpa using hsz
       unfold mU at hu
       split at hu
       ·rename_i du hdu
        dsimp only at hu
        split at hu
        ·rename_i e'
         have hat:c.argTypes = #[t,u]:=by
          apply Array.ext'
          rw [hts]
         obtain ⟨l1,_,_⟩:=hf.evals hargs
         have hl:c.args.toList.length=2:=by rw [l1];rfl
         match hx:c.args.toList,hl with
         | [x1,x2],_=>
          rw [hx] at hargs
          simp only [mAs,Bool.and_eq_true] at hargs
          have r1:=hf.eval hargs.1
          have r2:=hf.eval hargs.2.1
          have hargs':c.args.map a.eval = #[a.eval x1,a.eval x2]:=by
           apply Array.ext'
           simp [hx]
          have run:∀ v w',(Builtin.append_ #[t,t] o.type #[a.eval x1,a.eval x2]).run P w = .ok v w'→(execOp a.eval o).run P w = .ok (.value v) w':=by
           intro v w' h
           simp only [execOp,ho,resolve,hcal,Sem.run_bind,Sem.run_pure,Result.andThen,invoke,builtin,hat,hargs',run_append_types hut hdu,h]
          generalize a.eval x1=v1 at r1 run
          generalize a.eval x2=v2 at r2 run
          generalize av fr x=xd at r1 he
          generalize av fr y=yd at r2 he
          by_cases hxar:∃ k1 id off n,xd = .ar k1 id off n
          ·obtain ⟨k1,id,off,n,rfl⟩:=hxar
           obtain ⟨k2,nl2,ys,ow2,rfl,rfl,rfl,hk2,hlen,he⟩:=appD_ar he
           obtain ⟨cs,hsg,hnk,rfl⟩:=appA_cases he
           obtain ⟨news,b2,c2,rfl,n1,n2,n3,n4⟩:=rel_news (P:=P) r2 hk2 hk0
           cases r1 with
           | ar _ _ _ _ cap g hg hnc=>
            obtain ⟨hncap,hchi⟩:=hnc
            rw [Nat.zero_add] at hchi
            obtain ⟨vs,T,e1,⟨e2,e2h⟩,e3,e4,e5⟩:=hs.ent id _ g hsg hg
            have hcells:=row_cells n3 hk0 (by simpa using n1)
            have hfl:=hcells.1
            simp only [List.size_toArray] at hfl
            have hn:=n4 w (fun _ _ _=>rfl)
            have hnd:=n4 w.drew (fun _ _ _=>rfl)
            have htk:(cs.take (n * k1)).length=n * k1:=by rw [List.length_take];omega
            by_cases hroom:n+ys.length≤cap
            ·have hle:(n+ys.length) * k1≤cap * k1:=Nat.mul_le_mul_right k1 hroom
             rw [Nat.add_mul] at hle
             have hfit:n * k1+news.length≤vs.size:=by omega
             have hst:=run_storeCells_at P g.blk (0+n * k1) T news 0 vs w e1 (by omega) n2
             simp only [Nat.add_zero,Nat.zero_add] at hst
             have hsim:=hs.reown (zs:=cs.take (n * k1)++ys.flatten) hsg hg (wrote_setRow (cs:=(vs.toList.take (n * k1)++news++vs.toList.drop (n * k1+news.length)).toArray) e1)
              ⟨_,T,setRow_heap w g.blk vs _ T _ e1,⟨by rw [put_size _ _ _ hfit,List.length_append,htk];omega,by rw [put_size _ _ _ hfit];exact e2h⟩,e3,put_one e4 n2,fun m v d hv hd=>by
               rw [put_get _ _ _ _ hfit] at hv
               have hmono:∀ {v:Value} {d:D},Rel dp F G w v d→Rel dp F (⟨g.blk,0,g.hi⟩::G) (w.setRow g.blk (vs.toList.take (n * k1)++news++vs.toList.drop (n * k1+news.length)).toArray) v d:=fun h=>
                h.mono (fun _ _ h=>h) (fun id g h=>by rw [sget_cons _ _ _ (sget_lt h)];exact h) fun b o h=>World.cell?_of_block (a:=⟨b,o,none⟩) (setRow_other w g.blk b _ fun heq=>e3 o (heq ▸ h))
               by_cases hm:m<n * k1
               ·rw [List.getElem?_append_left (by omega),List.getElem?_take_of_lt hm] at hd
                rw [if_neg (by omega)] at hv
                exact hmono (e5 m v d hv hd)
               ·rw [List.getElem?_append_right (by omega),htk] at hd
                have hml:=(List.getElem?_eq_some_iff.1 hd).1
                rw [if_pos (by omega)] at hv
                exact hmono (hcells.2 _ v d (by simpa using hv) hd)⟩
             refine opOk_value (run _ _ (run_app_room hut hi hroom (by rw [hisz];exact hn) (by rw [hisz,Nat.zero_add];exact hst))) hsim ?_
             exact .ar k1 S.length 0 _ cap ⟨g.blk,0,g.hi⟩ (by rw [←hs.len,sget_top]) ⟨hroom,by simpa using hchi⟩
            ·have hnv:n * k1≤vs.size:=by omega
             have hod:(Builtin.firstCells i.size n (.slice (some ⟨g.blk,0,none⟩) n cap)).run P w.drew = .ok (vs.toList.take (n * k1)).toArray w.drew:=by
              rw [hisz]
              refine run_firstCells_some (P:=P) w.drew k1 n ⟨g.blk,0,none⟩ n cap _ (by simp;omega) fun j u hu=>?_
              have hj:=(List.getElem?_eq_some_iff.1 hu).1
              simp only [List.length_take] at hj
              rw [List.getElem?_take_of_lt (by omega)] at hu
              rw [addr_add,Nat.zero_add]
              show w.cell? ⟨g.blk,j,none⟩=some u
              rw [cell_box e1]
              simpa using hu
             have hgr:=run _ _ (run_app_grow hut hi hz (show cap<n+ys.length by omega) hbytes hlen hod (by rw [hisz];exact hnd))
             have hge:=grownCap_ge w (n+ys.length) cap e
             have ht1:(vs.toList.take (n * k1)).length=n * k1:=by rw [List.length_take];simp;omega
             have hsize:((vs.toList.take (n * k1)).toArray++news.toArray++Builtin.zeroCells z.cells (grownCap w (n+ys.length) cap e-(n+ys.length))).size=grownCap w (n+ys.length) cap e * k1:=by
              simp only [Array.size_append,List.size_toArray,ht1,n1,size_zeroCells,hzz]
              rw [←Nat.add_mul,←Nat.add_mul]
              congr 1
              omega
             have hle:CellsLe dp F G w ((vs.toList.take (n * k1)).toArray++news.toArray++Builtin.zeroCells z.cells (grownCap w (n+ys.length) cap e-(n+ys.length))) (cs.take (n * k1)++ys.flatten):=by
              refine ⟨by simp only [Array.size_append,List.size_toArray,List.length_append,htk,ht1];omega,fun m v d hv hd=>?_⟩
              rw [getElem?_app3] at hv
              simp only [List.size_toArray,ht1] at hv
              by_cases hm:m<n * k1
              ·rw [List.getElem?_append_left (by omega),List.getElem?_take_of_lt hm] at hd
               rw [if_pos hm,List.getElem?_toArray,List.getElem?_take_of_lt hm] at hv
               exact e5 m v d (by simpa using hv) hd
              ·rw [List.getElem?_append_right (by omega),htk] at hd
               have hml:=(List.getElem?_eq_some_iff.1 hd).1
               rw [if_neg hm,if_pos (by omega)] at hv
               exact hcells.2 _ v d (by simpa using hv) hd
             have hbox:=hs.pushBoxH (grownCap w (n+ys.length) cap e * k1) (grown_drew w _) hle (fun u hu=>by
               simp only [Array.toList_append,List.mem_append] at hu
               rcases hu with (hu | hu) | hu
               ·exact e4 u (List.mem_of_mem_take (by simpa using hu))
               ·exact n2 u hu
               ·obtain ⟨q,hq,rfl⟩:=List.getElem_of_mem hu
                simp only [Builtin.zeroCells] at hq ⊢
                have hq':q<(grownCap w (n+ys.length) cap e-(n+ys.length)) * z.cells.size:=by simpa using hq
                have hmod:q % z.cells.size<z.cells.size:=Nat.mod_lt _ (by omega)
                simp [hmod]
                exact hzone _ (by simp)) (T:=e) (S0:=sset S id .gone) (sset_length _ _ _) sset_gone (by rw [hsize];exact Nat.le_refl _)
             refine opOk_value hgr hbox ?_
             have:=Rel.ar (dp:=dp) (F:=F) (G:=⟨w.heap.size,0,grownCap w (n+ys.length) cap e * k1⟩::G) (w:=w.drew.alloc (.cells ((vs.toList.take (n * k1)).toArray++news.toArray++Builtin.zeroCells z.cells (grownCap w (n+ys.length) cap e-(n+ys.length))) e))
              k1 S.length 0 (n+ys.length) (grownCap w (n+ys.length) cap e) ⟨w.heap.size,0,grownCap w (n+ys.length) cap e * k1⟩ (by rw [←hs.len,sget_top]) ⟨hge,by simp⟩
             exact this
          obtain ⟨nl,xs,ow,k2,nl2,ys,ow2,rfl,rfl,hk2,hlen,he⟩:=appD_cases (fun a b c d e=>hxar ⟨a,b,c,d,e⟩) he
          obtain ⟨news,b2,c2,rfl,n1,n2,n3,n4⟩:=rel_news (P:=P) r2 hk2 hk0
          obtain ⟨olds,b1,cap,hv1,m1,m2,m3,m4⟩:=rel_news (P:=P) r1 (.inl rfl) hk0
          subst hv1
          have hn:=n4 w (fun _ _ _=>rfl)
          have hnd:=n4 w.drew (fun _ _ _=>rfl)
          have hod:=m4 w.drew (fun _ _ _=>rfl)
          have grow:cap<xs.length+ys.length→(execOp a.eval o).run P w = .ok (.value (.slice (some ⟨w.heap.size,0,none⟩) (xs.length+ys.length) (grownCap w (xs.length+ys.length) cap e)))
            (w.drew.alloc (.cells (olds.toArray++news.toArray++Builtin.zeroCells z.cells (grownCap w (xs.length+ys.length) cap e-(xs.length+ys.length))) e)):=fun hc=>
           run _ _ (run_app_grow hut hi hz hc hbytes hlen (by rw [hisz];exact hod) (by rw [hisz];exact hnd))
          have hge:=grownCap_ge w (xs.length+ys.length) cap e
          have hrow:=m3.append n3 (rest:=Builtin.zeroCells z.cells (grownCap w (xs.length+ys.length) cap e-(xs.length+ys.length))) (by simpa using m1) (by simpa using n1)
          have hsize:(olds.toArray++news.toArray++Builtin.zeroCells z.cells (grownCap w (xs.length+ys.length) cap e-(xs.length+ys.length))).size=grownCap w (xs.length+ys.length) cap e * k:=by
           simp only [Array.size_append,List.size_toArray,m1,n1,size_zeroCells,hzz]
           rw [←Nat.add_mul,←Nat.add_mul]
           congr 1
           omega
          have hlx:(xs++ys).length=xs.length+ys.length:=List.length_append
          rcases he with ⟨tk,rfl,htok,rfl,rfl,rfl⟩ | ⟨hemp,he⟩
          ·
           by_cases hroom:xs.length+ys.length≤cap
           ·rcases rel_sl r1 (.inr (by simp)) with ⟨h,_⟩ | ⟨_,blk,off,cap',cc,hv,hkl,hcap,h1,h2,hown⟩
            ·cases h
            ·injection hv with hv1 _ hv2
             subst hv1 hv2
             simp only [OwnOk] at hown
             obtain ⟨vs,T,e1,e2,e3⟩:=hs.ent tk _ _ htok hown
             simp only at e1 e2 e3
             have hle:(xs.length+ys.length) * k≤cap * k:=Nat.mul_le_mul_right k hroom
             rw [Nat.add_mul] at hle
             have hst:=run_storeCells_at P blk (off+xs.length * k) T news 0 vs w e1 (by omega) n2
             simp only [Nat.add_zero] at hst
             have hfit:off+xs.length * k+news.length≤vs.size:=by omega
             have hcc:∀ o,(w.setRow blk (vs.toList.take (off+xs.length * k)++news++vs.toList.drop (off+xs.length * k+news.length)).toArray).cell? ⟨blk,o,none⟩ =
               if off+xs.length * k≤o∧o<off+xs.length * k+news.length then news[o-(off+xs.length * k)]? else w.cell? ⟨blk,o,none⟩:=by
              intro o
              rw [cell_box (setRow_heap w blk vs _ T _ e1),put_get _ _ _ _ hfit,cell_box e1]
             have hsim:=hs.extend htok hown (wrote_setRow (cs:=(vs.toList.take (off+xs.length * k)++news++vs.toList.drop (off+xs.length * k+news.length)).toArray) e1) (lo:=off+xs.length * k+news.length)
              (fun o ho=>by rw [hcc,if_neg];intro h;exact e3 o h.1 ho) (by simp) (fun o h1 h2=>by
               simp only at h1 h2
               rw [hcc,if_pos ⟨h1,h2⟩]
               have:o-(off+xs.length * k)<news.length:=by omega
               exact ⟨news[o-(off+xs.length * k)],List.getElem?_eq_getElem this⟩) ⟨_,T,rfl,by
                rw [put_size _ _ _ hfit]
                exact e2⟩
             refine opOk_value (run _ _ (run_app_room hut hi hroom (by rw [hisz];exact hn) (by rw [hisz];exact hst))) hsim ?_
             rw [←hlx]
             refine .sl k (xs++ys) _ blk off cap (fun j m=>if j<xs.length then cc j m else news.getD ((j-xs.length) * k+m) undef) (fun q hq=>?_) (by omega) (fun j q m d hq hd=>?_) (fun j q m d hq hd=>?_) ?_
             ·rcases List.mem_append.1 hq with hq | hq
              ·exact hkl q hq
              ·exact n3.1 q hq
             ·by_cases hj:j<xs.length
              ·rw [List.getElem?_append_left hj] at hq
               obtain ⟨b1,b2,b3⟩:=h1 j q m d hq hd
               rw [if_pos hj]
               refine ⟨.inl b1,?_,b3⟩
               rw [hcc,if_neg (fun h=>e3 _ h.1 b1)]
               exact b2
              ·rw [List.getElem?_append_right (by omega)] at hq
               obtain ⟨v,a1,a2,a3⟩:=n3.2 _ q m d hq hd
               have hj2:=(List.getElem?_eq_some_iff.1 hq).1
               have hm:m<k:=by
                have:=(List.getElem?_eq_some_iff.1 hd).1
                rw [n3.1 q (List.mem_of_getElem? hq)] at this
                exact this
               have hlt:=lt_mul hj2 hm
               have e':j * k=xs.length * k+(j-xs.length) * k:=by rw [←Nat.add_mul];congr 1;omega
               rw [if_neg hj]
               have hv:news.getD ((j-xs.length) * k+m) undef=v:=by
                have:news[(j-xs.length) * k+m]? = some v:=by simpa using a1
                simp [this]
               rw [hv]
               refine ⟨.inr ⟨rfl,by first | omega | (simp only;omega),by first | omega | (simp only;omega)⟩,?_,a2⟩
               rw [hcc,if_pos (by omega),show off+j * k+m-(off+xs.length * k)=(j-xs.length) * k+m by omega]
               simpa using a1
             ·by_cases hj:j<xs.length
              ·rw [List.getElem?_append_left hj] at hq
               rw [if_pos hj]
               exact (h2 j q m d hq hd).ext hsim.2
              ·rw [List.getElem?_append_right (by omega)] at hq
               obtain ⟨v,a1,a2,a3⟩:=n3.2 _ q m d hq hd
               rw [if_neg hj]
               have hv:news.getD ((j-xs.length) * k+m) undef=v:=by
                have:news[(j-xs.length) * k+m]? = some v:=by simpa using a1
                simp [this]
               rw [hv]
               exact a3.ext hsim.2
             ·have e':off+(xs++ys).length * k=off+xs.length * k+news.length:=by rw [hlx,Nat.add_mul,n1];omega
              simp only [OwnOk]
              rw [e',←hs.len,sget_top]
           ·obtain ⟨h1,h2⟩:=hs.pushRow (cap:=grownCap w (xs.length+ys.length) cap e) (grown_drew w _) hrow hsize (by omega) (S0:=sset S tk (.tok false)) (sset_length _ _ _) sset_consume
            rw [sset_length] at h2
            rw [hlx] at h1 h2
            exact opOk_value (grow (by omega)) h1 h2
          ·have hx0:xs=[]∧cap=0:=by
            rcases rel_sl r1 (hemp.elim (fun h=>.inr (by rw [h];simp)) .inl) with ⟨_,hx0,hv⟩ | ⟨hnl,blk,off,cap',cc,hv,hkl,hcap,h1,h2,hown⟩
            ·injection hv with _ _ hv
             exact ⟨hx0,hv⟩
            ·injection hv with _ _ hv
             rcases hemp with rfl | hh
             ·simp only [OwnOk] at hown
              exact ⟨List.eq_nil_of_length_eq_zero (by omega),by omega⟩
             ·rw [hh] at hnl;cases hnl
           obtain ⟨rfl,rfl⟩:=hx0
           simp only [List.length_nil,Nat.zero_add,List.nil_append] at grow hge hrow hsize
           rcases he with ⟨rfl,rfl⟩ | ⟨hpos,rfl,rfl⟩ | ⟨hpos,rfl,rfl⟩
           ·have hnews:news=[]:=List.eq_nil_of_length_eq_zero (by simpa using n1)
            subst hnews
            refine opOk_value (v:=.slice b1 0 0) (w':=w) (run _ _ ?_) ⟨hs,Ext.refl _ _ _ _⟩ r1
            rcases rel_sl r1 (hemp.elim (fun h=>.inr (by rw [h];simp)) .inl) with ⟨_,_,hv⟩ | ⟨_,blk,off,cap',cc,hv,_⟩
            ·injection hv with hv
             subst hv
             exact run_app_none (i:=i) hut hi (Nat.le_refl _) (by rw [hisz];exact hn)
            ·injection hv with hv
             subst hv
             exact run_app_room (i:=i) hut hi (Nat.le_refl _) (by rw [hisz];exact hn) (by simp [storeCells])
           ·have hcells:=row_cells n3 hk0 (by simpa using n1)
            have hle:CellsLe dp F G w (olds.toArray++news.toArray++Builtin.zeroCells z.cells (grownCap w ys.length 0 e-ys.length)) ys.flatten:=by
             have ho0:olds=[]:=List.eq_nil_of_length_eq_zero (by simpa using m1)
             subst ho0
             have hfl:=hcells.1
             simp only [List.size_toArray] at hfl
             refine ⟨by simp only [Array.size_append,List.size_toArray];omega,fun j v d hv hd=>?_⟩
             have hj:=(List.getElem?_eq_some_iff.1 hd).1
             rw [getElem?_app3,if_neg (by simp),if_pos (by simp;omega)] at hv
             exact hcells.2 j v d (by simpa using hv) hd
            refine opOk_value (grow hpos) (hs.pushBoxH (grownCap w ys.length 0 e * k) (grown_drew w _) hle (fun u hu=>?_) rfl (fun _ _ h=>.inl h) (by (have ho0:olds=[]:=List.eq_nil_of_length_eq_zero (by simpa using m1));subst ho0;rw [←hsize];simp)) (.ar k _ 0 _ _ ⟨w.heap.size,0,grownCap w ys.length 0 e * k⟩ (by rw [←hs.len];exact sget_top _ _) ⟨hge,by simp⟩)
            simp only [Array.toList_append,List.mem_append] at hu
            rcases hu with (hu | hu) | hu
            ·exact m2 u hu
            ·exact n2 u hu
            ·obtain ⟨q,hq,rfl⟩:=List.getElem_of_mem hu
             simp only [Builtin.zeroCells] at hq ⊢
             have hq':q<(grownCap w ys.length 0 e-ys.length) * z.cells.size:=by simpa using hq
             have hmod:q % z.cells.size<z.cells.size:=Nat.mod_lt _ (by omega)
             simp [hmod]
             exact hzone _ (by simp)
           ·obtain ⟨h1,h2⟩:=hs.pushRow (cap:=grownCap w ys.length 0 e) (grown_drew w _) hrow hsize (by omega) (S0:=S) rfl (fun _ _ h=>.inl h)
            exact opOk_value (grow hpos) h1 h2
        ·cases hu
       ·cases hu
      ·cases hzz
     ·cases hinfo
    ·cases ht
   ·cases ht
  ·cases hb
 ·cases hm
end
end Go.Proofs.YtjniafcnjbbomaaGreatDoor.DE

namespace Go.Proofs.YtjniafcnjbbomaaGreatDoor.DE
open Go
section
variable {P:Program} {dp:Nat→Option Fn} {F F':Fix} {G G':List Gh} {w w':World} {S S':Store} {a:Act} {fr:List D} {o:Oper} {d:D} {cf:CallF}
def RelA (dp:Nat→Option Fn) (F:Fix) (G:List Gh) (w:World) (vs:Array Value) (ds:List D):Prop:=
 vs.size=ds.length∧∀ (j:Nat) (v:Value) (d:D),vs[j]? = some v→ds[j]? = some d→Rel dp F G w v d
def CallOk (P:Program) (dp:Nat→Option Fn) (cf:CallF):Prop:=
 ∀ g f args S r S',dp g=some f→cf g args S=some (r,S')→∀ F G w vs,Sim dp F G w S→RelA dp F G w vs args →
  ∀ R:Ending→World→Prop,(∀ v w' F' G',Sim dp F' G' w' S'→Ext F G w S F' G' w' S'→Rel dp F' G' w' v r→R (.returned v) w')→Calls P f.real vs w R
def Enter (P:Program) (dp:Nat→Option Fn):Prop:=∀ g f,dp g=some f→∃ fn,P.funcs[f.real]? = some fn∧(fn.name == "runtime.NumGoroutine")=false∧fn.body.isNone=false
theorem Sim.forget (hs:Sim dp F G w S):Sim dp F [] w []:=
 ⟨rfl,hs.fcell,fun _ _ _ h=>(by cases h),fun _ _ _ _ _ _ _ h=>(by cases h)⟩
theorem not_owns (b:Nat):¬Owns [] [] b:=by
 rintro ⟨_,_,_,h,_⟩
 cases h
theorem Sim.recall {G0:List Gh} {S0:Store} (hs:Sim dp F G w S) (h:Sim dp F' G0 w' S0) (e:Ext F [] w [] F' G0 w' S0):Sim dp F' G w' S∧Ext F G w S F' G w' S:=by
 refine hs.step (fun b=>w.heap.size≤b) hs.len (fun _ _ h=>h) e.fsub e.cells (fun b o hF=>?_) (fun b hb _=>e.frame b hb (not_owns b)) (fun b hb=>.inr hb) (fun id en g h1 h2=>?_) e.size e.os e.tape e.output
 ·rcases e.fnew b o hF with h1 | h1 | h1
  ·exact .inl h1
  ·exact (not_owns b h1).elim
  ·exact .inr ⟨h1,h.fcell b o hF⟩
 ·by_cases hh:holds en
  ·have:=hs.lt h1 h2 hh
   exact .inr (.inl ⟨h1,h2,by omega⟩)
  ·exact .inl hh
theorem callR_ok (hc:CallOk P dp cf) {g:Nat} {f:Fn} {iso:Bool} {args:List D} {r:D} (hg:dp g=some f) (he:callR cf g iso args S=some (r,S')) {vs:Array Value} (hs:Sim dp F G w S)
  (hv:RelA dp F G w vs args) (R:Ending→World→Prop) (hR:∀ v w' F' G',Sim dp F' G' w' S'→Ext F G w S F' G' w' S'→Rel dp F' G' w' v r→R (.returned v) w'):Calls P f.real vs w R:=by
 unfold callR at he
 cases iso with
 | false=>exact hc g f args S r S' hg (by simpa using he) F G w vs hs hv R hR
 | true=>
  simp only [if_true] at he
  cases hi:isoCall cf g args with
  | none=>simp [hi] at he
  | some q=>
   simp only [hi,Option.map_some,Option.some.injEq,Prod.mk.injEq] at he
   obtain ⟨rfl,rfl⟩:=he
   unfold isoCall at hi
   split at hi
   ·rename_i hn
    split at hi
    ·rename_i r0 S0 hcall
     split at hi
     ·rename_i hr
      injection hi with hi
      subst hi
      refine hc g f _ [] r0 S0 hg hcall F [] w vs hs.forget ⟨by rw [stripL_length];exact hv.1,fun j v d h1 h2=>?_⟩ R fun v w' F' G' h1 h2 h3=>?_
      ·have hno:=noRefL_get hn h2
       obtain ⟨e,he,rfl⟩:=stripL_get h2
       exact (hv.2 j v e h1 he).strip.plain hno []
      ·obtain ⟨h4,h5⟩:=hs.recall h1 h2
       exact hR v w' F' G h4 h5 (h3.stripT.plain hr G)
     ·cases hi
    ·cases hi
   ·cases hi
theorem Fr.argsA {a:Act} {fr:List D} (h:Fr dp F G w a fr) {xs:Array Operand} {ys:List A} (hm:mAs dp xs.toList ys=true):RelA dp F G w (xs.map a.eval) (avs fr ys):=by
 obtain ⟨h1,h2,h3⟩:=h.evals hm
 refine ⟨by rw [Array.size_map,h2,←h1];simp,fun j v d hv hd=>h3 j v d ?_ hd⟩
 simpa using hv
theorem run_enter (hen:Enter P dp) {g:Nat} {f:Fn} (hg:dp g=some f) (args:Array Value):(callFunc f.real args).run P w = .ok (.enter f.real args) w:=by
 obtain ⟨fn,h1,h2,h3⟩:=hen g f hg
 have h2':fn.name ≠ "runtime.NumGoroutine":=by simpa using h2
 cases hb:fn.body with
 | none=>simp [hb] at h3
 | some c=>simp [callFunc,h1,h2',hb]
theorem ok_call {g:Nat} {iso:Bool} {ys:List A} (hc:CallOk P dp cf) (hen:Enter P dp) (hm:mR P dp o.op (.call g iso ys)=true) (hs:Sim dp F G w S) (hf:Fr dp F G w a fr)
  (he:callR cf g iso (avs fr ys) S=some (d,S')):OpOk P dp F G w S a o d S':=by
 simp only [mR] at hm
 split at hm
 ·rename_i c ho
  simp only [Bool.and_eq_true] at hm
  obtain ⟨h1,h2⟩:=hm
  split at h1
  ·rename_i f hcal
   unfold mF at h1
   split at h1
   ·rename_i x hx
    simp only [beq_iff_eq] at h1
    subst h1
    intro next Q hn
    have hrun:(execOp a.eval o).run P w = .ok (.enter x.real (c.args.map a.eval)) w:=by
     simp only [execOp,ho,resolve,hcal,Act.eval,Deferred.ofValue,Sem.run_bind,Sem.run_pure,Result.andThen,invoke,Array.append_empty,Array.empty_append,run_enter hen hx]
    simp only [Oper.wp,hrun,Oper.upon]
    exact callR_ok hc hx he hs (hf.argsA h2) _ fun v w' F' G' k1 k2 k3=>hn v w' F' G' k1 k2 k3
   ·cases h1
  ·cases h1
 ·cases hm
theorem RelA.append {vs us:Array Value} {xs ys:List D} (h1:RelA dp F G w vs xs) (h2:RelA dp F G w us ys):RelA dp F G w (vs++us) (xs++ys):=by
 refine ⟨by simp [h1.1,h2.1],fun j v d hv hd=>?_⟩
 by_cases hj:j<xs.length
 ·rw [List.getElem?_append_left hj] at hd
  rw [Array.getElem?_append_left (by rw [h1.1];exact hj)] at hv
  exact h1.2 j v d hv hd
 ·rw [List.getElem?_append_right (by omega)] at hd
  rw [Array.getElem?_append_right (by rw [h1.1];omega),h1.1] at hv
  exact h2.2 _ v d hv hd
theorem ok_calld {x:A} {g:Nat} {cs:List D} {iso:Bool} {ys:List A} (hc:CallOk P dp cf) (hen:Enter P dp) (hm:mR P dp o.op (.calld x iso ys)=true) (hs:Sim dp F G w S) (hf:Fr dp F G w a fr)
  (hx:av fr x = .fn g cs) (he:callR cf g iso (avs fr ys++cs) S=some (d,S')):OpOk P dp F G w S a o d S':=by
 simp only [mR] at hm
 split at hm
 ·rename_i c ho
  simp only [Bool.and_eq_true] at hm
  obtain ⟨h1,h2⟩:=hm
  split at h1
  ·rename_i xo hcal
   have r1:=hf.eval h1
   rw [hx] at r1
   generalize hv1:a.eval xo=v1 at r1
   cases r1 with
   | fn _ f hg vs _ hl h=>
    intro next Q hn
    have hrun:(execOp a.eval o).run P w = .ok (.enter f.real (c.args.map a.eval++vs)) w:=by
     simp only [execOp,ho,resolve,hcal,hv1,Deferred.ofValue,Sem.run_bind,Sem.run_pure,Result.andThen,invoke,Array.empty_append,run_enter hen hg]
    simp only [Oper.wp,hrun,Oper.upon]
    exact callR_ok hc hg he hs ((hf.argsA h2).append ⟨hl,h⟩) _ fun v w' F' G' k1 k2 k3=>hn v w' F' G' k1 k2 k3
  ·cases h1
 ·cases hm
theorem map_pair {α β:Type} {x:Option α} {f:α→β × Store} {r:β × Store} (h:x.map f=some r):∃ y,x=some y∧f y=r:=by
 cases x with
 | none=>cases h
 | some y=>exact ⟨y,rfl,by simpa using h⟩
theorem ok_R (hc:CallOk P dp cf) (hen:Enter P dp) {r:R} (hm:mR P dp o.op r=true) (hs:Sim dp F G w S) (hf:Fr dp F G w a fr) (he:evR cf fr S r=some (d,S')):OpOk P dp F G w S a o d S':=by
 cases r with
 | mv x=>
  simp only [evR,Option.some.injEq,Prod.mk.injEq] at he
  obtain ⟨rfl,rfl⟩:=he
  exact (pur_mv hm hf).ok hs
 | nilck x=>
  simp only [evR] at he
  split at he
  ·rename_i i p heq
   simp only [Option.some.injEq,Prod.mk.injEq] at he
   obtain ⟨rfl,rfl⟩:=he
   have:=pur_nilck hm hf (by rw [heq])
   rw [heq] at this
   exact this.ok hs
  ·rename_i i p heq
   simp only [Option.some.injEq,Prod.mk.injEq] at he
   obtain ⟨rfl,rfl⟩:=he
   have:=pur_nilck hm hf (by rw [heq])
   rw [heq] at this
   exact this.ok hs
  ·rename_i i p heq
   simp only [Option.some.injEq,Prod.mk.injEq] at he
   obtain ⟨rfl,rfl⟩:=he
   have:=pur_nilck hm hf (by rw [heq])
   rw [heq] at this
   exact this.ok hs
  ·cases he
 | pick c x y=>
  simp only [evR] at he
  split at he
  ·rename_i t heq
   simp only [Option.some.injEq,Prod.mk.injEq] at he
   obtain ⟨rfl,rfl⟩:=he
   exact (pur_pick hm hf heq).ok hs
  ·cases he
 | alloc z=>
  simp only [evR,Option.some.injEq,Prod.mk.injEq] at he
  obtain ⟨rfl,rfl⟩:=he
  exact ok_alloc hm hs
 | box k g x=>
  obtain ⟨cs,h1,h2⟩:=map_pair he
  simp only [Prod.mk.injEq] at h2
  obtain ⟨rfl,rfl⟩:=h2
  exact ok_box hm hs hf h1
 | bld z ps=>
  obtain ⟨cs,h1,h2⟩:=map_pair he
  simp only [Prod.mk.injEq] at h2
  obtain ⟨rfl,rfl⟩:=h2
  exact (pur_bld hm hf h1).ok hs
 | bsl k g own xs=>
  obtain ⟨l,h1,h2⟩:=map_pair he
  have:=ok_bsl hm hs hf h1
  unfold bslRes at this
  rw [h2] at this
  exact this
 | bsa k g xs=>
  obtain ⟨l,h1,h2⟩:=map_pair he
  simp only [Prod.mk.injEq] at h2
  obtain ⟨rfl,rfl⟩:=h2
  exact ok_bsa hm hs hf h1
 | ld k g x=>
  obtain ⟨l,h1,h2⟩:=map_pair he
  simp only [Prod.mk.injEq] at h2
  obtain ⟨rfl,rfl⟩:=h2
  exact (pur_ld hm hs hf h1).ok hs
 | st k g x v=>
  obtain ⟨l,h1,h2⟩:=map_pair he
  simp only [Prod.mk.injEq] at h2
  obtain ⟨rfl,rfl⟩:=h2
  unfold stD at h1
  split at h1
  ·rename_i id p heq
   split at h1
   ·rename_i cs hsg
    split at h1
    ·rename_i ds hds
     split at h1
     ·rename_i hle
      injection h1 with h1
      subst h1
      exact ok_st hm hs hf heq hsg hds hle
     ·cases h1
    ·cases h1
   ·cases h1
  ·cases h1
 | bin op q x y=>
  obtain ⟨l,h1,h2⟩:=map_pair he
  simp only [Prod.mk.injEq] at h2
  obtain ⟨rfl,rfl⟩:=h2
  exact (pur_bin hm hf h1).ok hs
 | un op x=>
  obtain ⟨l,h1,h2⟩:=map_pair he
  simp only [Prod.mk.injEq] at h2
  obtain ⟨rfl,rfl⟩:=h2
  exact (pur_un hm hf h1).ok hs
 | conv k x=>
  simp only [evR] at he
  split at he
  ·rename_i k' n heq
   simp only [Option.some.injEq,Prod.mk.injEq] at he
   obtain ⟨rfl,rfl⟩:=he
   exact (pur_conv hm hf heq).ok hs
  ·cases he
 | mkfn g cs=>
  simp only [evR,Option.some.injEq,Prod.mk.injEq] at he
  obtain ⟨rfl,rfl⟩:=he
  exact (pur_mkfn hm hf).ok hs
 | mkmap=>
  simp only [evR,Option.some.injEq,Prod.mk.injEq] at he
  obtain ⟨rfl,rfl⟩:=he
  exact ok_mkmap hm hs
 | mksl k arr z n=>
  simp only [evR] at he
  split at he
  ·rename_i k' m heq
   split at he
   ·rename_i hcond
    have:=ok_mksl hm hs hf heq hcond.1 hcond.2
    have e:mkslRes k arr z m.toNat S=(d,S'):=by
     apply Option.some.inj
     rw [←he]
     unfold mkslRes
     by_cases h0:m.toNat=0
     ·have:m=0:=by omega
      subst this
      cases arr <;> simp
     ·have hm0:¬m=0:=by omega
      cases arr <;> simp [h0,hm0]
    rw [e] at this
    exact this
   ·cases he
  ·cases he
 | slc k x lo hi=>
  obtain ⟨l,h1,h2⟩:=map_pair he
  simp only [Prod.mk.injEq] at h2
  obtain ⟨rfl,rfl⟩:=h2
  exact (pur_slc hm hf h1).ok hs
 | slcs x lo hi=>
  obtain ⟨l,h1,h2⟩:=map_pair he
  simp only [Prod.mk.injEq] at h2
  obtain ⟨rfl,rfl⟩:=h2
  exact (pur_slcs hm hf h1).ok hs
 | fa off x=>
  simp only [evR] at he
  split at he
  ·rename_i id p heq
   simp only [Option.some.injEq,Prod.mk.injEq] at he
   obtain ⟨rfl,rfl⟩:=he
   exact (pur_fa hm hf (by rw [heq])).ok hs
  ·rename_i cs p heq
   simp only [Option.some.injEq,Prod.mk.injEq] at he
   obtain ⟨rfl,rfl⟩:=he
   exact (pur_fa hm hf (by rw [heq])).ok hs
  ·cases he
 | fld off k g x=>
  simp only [evR] at he
  split at he
  ·rename_i cs heq
   obtain ⟨l,h1,h2⟩:=map_pair he
   simp only [Prod.mk.injEq] at h2
   obtain ⟨rfl,rfl⟩:=h2
   exact (pur_fld hm hf heq h1).ok hs
  ·cases he
 | ia k x i=>
  obtain ⟨l,h1,h2⟩:=map_pair he
  simp only [Prod.mk.injEq] at h2
  obtain ⟨rfl,rfl⟩:=h2
  exact (pur_ia hm hf h1).ok hs
 | iaa n k x i=>
  simp only [evR] at he
  split at he
  ·rename_i id p k' m h1 h2
   split at he
   ·rename_i hcond
    simp only [Option.some.injEq,Prod.mk.injEq] at he
    obtain ⟨rfl,rfl⟩:=he
    exact (pur_iaa hm hf h1 h2 hcond.1 hcond.2).ok hs
   ·cases he
  ·cases he
 | ixs x i=>
  simp only [evR] at he
  split at he
  ·rename_i l k' m h1 h2
   split at he
   ·rename_i hcond
    obtain ⟨c,h3,h4⟩:=map_pair he
    simp only [Prod.mk.injEq] at h4
    obtain ⟨rfl,rfl⟩:=h4
    exact (pur_ixs hm hf h1 h2 hcond h3).ok hs
   ·cases he
  ·cases he
 | lk kk ok z m key=>
  simp only [evR] at he
  split at he
  ·rename_i hk
   split at he
   ·rename_i heq
    simp only [Option.some.injEq,Prod.mk.injEq] at he
    obtain ⟨rfl,rfl⟩:=he
    exact (pur_lk (r:=none) hm hs hf hk (by rw [heq];rfl)).ok hs
   ·rename_i id heq
    split at he
    ·rename_i es hsg
     split at he
     ·rename_i v hv
      simp only [Option.some.injEq,Prod.mk.injEq] at he
      obtain ⟨rfl,rfl⟩:=he
      exact (pur_lk (r:=some v) hm hs hf hk (by rw [heq];simp only [lkIn,hsg,hv])).ok hs
     ·rename_i hv
      simp only [Option.some.injEq,Prod.mk.injEq] at he
      obtain ⟨rfl,rfl⟩:=he
      exact (pur_lk (r:=none) hm hs hf hk (by rw [heq];simp only [lkIn,hsg,hv])).ok hs
     ·cases he
    ·cases he
   ·cases he
  ·cases he
 | mu kk m key v=>
  simp only [evR] at he
  split at he
  ·rename_i hk
   split at he
   ·rename_i id heq
    split at he
    ·rename_i es hsg
     obtain ⟨es',h1,h2⟩:=map_pair he
     simp only [Prod.mk.injEq] at h2
     obtain ⟨rfl,rfl⟩:=h2
     exact ok_mu hm hs hf hk heq hsg h1
    ·cases he
   ·cases he
  ·cases he
 | ment kk z m key=>
  simp only [evR] at he
  split at he
  ·rename_i hk
   split at he
   ·rename_i id heq
    split at he
    ·rename_i es hsg
     split at he
     ·rename_i j hp
      refine ok_ment (r:=(d,S')) hm hs hf hk heq hsg hp ?_
      simp only [mentRes]
      exact he
     ·rename_i hp
      refine ok_ment (r:=(d,S')) hm hs hf hk heq hsg hp ?_
      simp only [mentRes]
      exact he
     ·cases he
    ·cases he
   ·cases he
  ·cases he
 | est m j v=>
  simp only [evR] at he
  split at he
  ·rename_i id k' n h1 h2
   split at he
   ·rename_i es hsg
    split at he
    ·rename_i hcond
     simp only [Option.some.injEq,Prod.mk.injEq] at he
     obtain ⟨rfl,rfl⟩:=he
     exact ok_est hm hs hf h1 h2 hsg hcond.1 hcond.2
    ·cases he
   ·cases he
  ·cases he
 | ext x j=>
  simp only [evR] at he
  split at he
  ·rename_i cs heq
   obtain ⟨l,h1,h2⟩:=map_pair he
   simp only [Prod.mk.injEq] at h2
   obtain ⟨rfl,rfl⟩:=h2
   exact (pur_ext hm hf heq h1).ok hs
  ·cases he
 | len str x=>
  simp only [evR] at he
  split at he
  ·rename_i k' nl xs ow heq
   simp only [Option.some.injEq,Prod.mk.injEq] at he
   obtain ⟨rfl,rfl⟩:=he
   exact (pur_len hm hf (by rw [heq])).ok hs
  ·rename_i k' id p n heq
   simp only [Option.some.injEq,Prod.mk.injEq] at he
   obtain ⟨rfl,rfl⟩:=he
   exact (pur_len hm hf (by rw [heq])).ok hs
  ·rename_i l heq
   simp only [Option.some.injEq,Prod.mk.injEq] at he
   obtain ⟨rfl,rfl⟩:=he
   exact (pur_len hm hf (by rw [heq])).ok hs
  ·cases he
 | app k arr x y=>exact ok_app (r:=(d,S')) hm hs hf he
 | mx x y=>
  simp only [evR] at he
  split at he
  ·rename_i k p k' q h1 h2
   split at he
   ·rename_i hk
    subst hk
    simp only [Option.some.injEq,Prod.mk.injEq] at he
    obtain ⟨rfl,rfl⟩:=he
    exact (pur_mx hm hf h1 h2).ok hs
   ·cases he
  ·cases he
 | mn x y=>
  simp only [evR] at he
  split at he
  ·rename_i k p k' q h1 h2
   split at he
   ·rename_i hk
    subst hk
    simp only [Option.some.injEq,Prod.mk.injEq] at he
    obtain ⟨rfl,rfl⟩:=he
    exact (pur_mn hm hf h1 h2).ok hs
   ·cases he
  ·cases he
 | clr k z x=>
  simp only [evR] at he
  split at he
  ·rename_i k' id p n heq
   split at he
   ·rename_i hcond
    obtain ⟨rfl,hz⟩:=hcond
    split at he
    ·rename_i cs hsg
     split at he
     ·rename_i hle
      simp only [Option.some.injEq,Prod.mk.injEq] at he
      obtain ⟨rfl,rfl⟩:=he
      exact ok_clr hm hs hf (.inl ⟨id,p,n,cs,heq,hz,hsg,hle,rfl⟩)
     ·cases he
    ·cases he
   ·cases he
  ·rename_i k' nl ow heq
   simp only [Option.some.injEq,Prod.mk.injEq] at he
   obtain ⟨rfl,rfl⟩:=he
   exact ok_clr hm hs hf (.inr ⟨k',nl,ow,heq,rfl⟩)
  ·cases he
 | call g iso args=>exact ok_call hc hen hm hs hf he
 | calld f iso args=>
  simp only [evR] at he
  split at he
  ·rename_i g cs heq
   exact ok_calld hc hen hm hs hf heq he
  ·cases he
 | cmps x y=>
  simp only [evR] at he
  split at he
  ·rename_i l m h1 h2
   simp only [Option.some.injEq,Prod.mk.injEq] at he
   obtain ⟨rfl,rfl⟩:=he
   exact (ok_cmps hm hf h1 h2).ok hs
  ·cases he
end
end Go.Proofs.YtjniafcnjbbomaaGreatDoor.DE

namespace Go.Proofs.YtjniafcnjbbomaaGreatDoor.DE
open Go
def dstI:I→Option Nat
 | .op dst _ _=>dst
 | .fz t=>some t
 | .ck _ _=>none
def asOp:I→Option (Option Nat × Option (Nat × Bool) × R)
 | .op dst gd r=>some (dst,gd,r)
 | .ck t r=>some (some t,none,r)
 | .fz _=>none
def isX:I→Bool
 | .op _ _ r=>match kdR r with | .x=>true | _=>false
 | _=>false
def kdX (r:R):Bool:=match kdR r with | .x=>true | _=>false
def kdP (r:R):Bool:=match kdR r with | .p=>true | _=>false
def nX:List (Nat × I)→Nat
 | []=>0
 | (_,i)::l=>(if isX i then 1 else 0)+nX l
def xsOf:List (Nat × I)→List Nat
 | []=>[]
 | (j,i)::l=>if isX i then j::xsOf l else xsOf l
def ann:Nat→List (Nat × I)→List (Nat × Nat × I)
 | _,[]=>[]
 | n,(j,i)::l=>(n,j,i)::ann ((if isX i then 1 else 0)+n) l
def noDst (u:Nat) (l:List (Nat × I)):Bool:=l.all fun q=>dstI q.2 != some u
def uniq:List (Nat × I)→Bool
 | []=>true
 | (_,i)::l=>(match i with | .op (some t) _ _=>noDst t l | .ck t _=>noDst t l | _=>true)&&uniq l
def bbit (B:List Nat) (q j:Nat):Bool:=(B.getD j 0).testBit q
def ndB:List Nat→Bool
 | []=>true
 | x::l=>l.all (fun y=>y != x)&&ndB l
def chainB (B:List Nat):List Nat→Bool
 | x::y::l=>bbit B x y&&chainB B (y::l)
 | _=>true
def usO:I→List Nat
 | .op _ gd r=>usG gd++usR r
 | .fz _=>[]
 | .ck _ r=>usR r
def useOk (ops:List Oper) (B:List Nat) (pre:List (Nat × I)) (j:Nat) (i:I) (post:List (Nat × I)):Bool:=
 (usO i).all fun u=>(noDst u ((j,i)::post)&&ops.zipIdx.all fun q=>q.1.dst != some u || bbit B q.2 j) || (noDst u pre&&ops.zipIdx.all fun q=>q.1.dst != some u || bbit B j q.2)
def usesOk (ops:List Oper) (B:List Nat):List (Nat × I)→List (Nat × I)→Bool
 | _,[]=>true
 | pre,(j,i)::l=>useOk ops B pre j i l&&usesOk ops B (pre++[(j,i)]) l
def itemOk (P:Program) (dp:Nat→Option Fn) (ops:List Oper) (j:Nat) (i:I):Bool:=match ops[j]? with
 | some o=>match asOp i with
  | some (dst,gd,r)=>mI P dp ops o (.op dst gd r)
  | none=>false
 | none=>false
def ckOk:I→Bool
 | .ck _ r=>!kdX r
 | _=>true
def covOk (B xs:List Nat) (A:List (Nat × Nat × I)) (pf:Nat) (j:Nat):Bool:=
 A.any (fun q=>q.2.1 == j&&(match q.2.2 with | .op _ _ r=>kdP r || kdX r | _=>false)) ||
 (List.range (xs.length+1)).all fun k=>xs.zipIdx.any (fun x=>(bbit B x.1 j && !decide (x.2<k)&&x.2 != pf) || (bbit B j x.1 && !decide (k≤x.2))) ||
  A.any fun q=>q.1 == k&&q.2.1 == j && !isX q.2.2
def edgesOk (ops:List Oper):Bool:=ops.zipIdx.all fun q=>q.1.after.toList.all fun e=>!Region.binds .any e || decide (e.on<q.2)
def brk (B:List Nat):Nat→List Nat→Option Nat
 | n,x::y::l=>if bbit B x y then brk B (n+1) (y::l) else some (n+1)
 | _,_=>none
def flT:I→Option Nat
 | .op (some t) none (.alloc _)=>some t
 | _=>none
def flOk (ops:List Oper) (B xs:List Nat) (A:List (Nat × Nat × I)) (p f t:Nat):Bool:=
 decide (p<xs.length)&&(xs.getD p 0 == f)&&(match xs[p+1]? with | some y=>bbit B f y | none=>false) &&
 A.any (fun q=>q.1 == p&&q.2.1 == f&&flT q.2.2 == some t) &&
 ops.zipIdx.all (fun q=>q.2 == f || q.1.dst != some t) &&
 A.all fun q=>q.2.1 == f || !(usO q.2.2).contains t || (isX q.2.2&&decide (p<q.1))
def flFind (A:List (Nat × Nat × I)) (p:Nat):Option (Nat × Nat):=match A.find? (fun q=>q.1 == p&&isX q.2.2) with
 | some q=>match flT q.2.2 with
  | some t=>some (q.2.1,t)
  | none=>none
 | none=>none
def mDr (P:Program) (dp:Nat→Option Fn) (ops:List Oper) (is:List (Nat × I)):Bool:=
 let B:=befores ops []
 let A:=ann 0 is
 let xs:=xsOf is
 is.all (fun q=>itemOk P dp ops q.1 q.2&&ckOk q.2)&&uniq is&&usesOk ops B [] is&&edgesOk ops&&ndB xs&&(match brk B 0 xs with
  | none=>true
  | some p=>chainB B (xs.eraseIdx p)&&(match flFind A p with | some (f,t)=>flOk ops B xs A p f t | none=>false))&&(List.range ops.length).all fun j=>covOk B xs A ((brk B 0 xs).getD xs.length) j
theorem brk_none {B:List Nat}:∀ {l:List Nat} {n:Nat},brk B n l=none→chainB B l=true
 | [],_,_=>rfl
 | [_],_,_=>rfl
 | x::y::l,n,h=>by
  simp only [brk] at h
  split at h
  ·rename_i hb
   simp only [chainB,hb,Bool.true_and]
   exact brk_none h
  ·cases h
section
variable {cf:CallF} {fr fr':List D} {S S':Store}
theorem av_congr {x:A} (h:∀ t∈usA x,fget fr t=fget fr' t):av fr x=av fr' x:=by
 cases x with
 | t n=>exact h n (by simp [usA])
 | c d=>rfl
theorem avo_congr {x:Option A} (h:∀ t∈usAo x,fget fr t=fget fr' t):avo fr x=avo fr' x:=by
 cases x with
 | none=>rfl
 | some x=>simp only [avo,av_congr (x:=x) h]
theorem avs_congr:∀ {xs:List A},(∀ t∈usAs xs,fget fr t=fget fr' t)→avs fr xs=avs fr' xs
 | [],_=>rfl
 | x::xs,h=>by
  simp only [usAs,List.mem_append] at h
  simp only [avs]
  rw [av_congr fun t ht=>h t (.inl ht),avs_congr fun t ht=>h t (.inr ht)]
theorem bldD_congr:∀ {ps:List (Nat × Nat × Bool × A)} {z:List D},(∀ t∈usPs ps,fget fr t=fget fr' t)→bldD fr z ps=bldD fr' z ps
 | [],_,_=>rfl
 | (o,k,g,x)::ps,z,h=>by
  simp only [usPs,List.mem_append] at h
  simp only [bldD]
  rw [av_congr fun t ht=>h t (.inl ht)]
  split
  ·split
   ·exact bldD_congr fun t ht=>h t (.inr ht)
   ·rfl
  ·rfl
theorem cellsAll_congr {k:Nat} {g:Bool}:∀ {xs:List A},(∀ t∈usAs xs,fget fr t=fget fr' t)→cellsAll fr k g xs=cellsAll fr' k g xs
 | [],_=>rfl
 | x::xs,h=>by
  simp only [usAs,List.mem_append] at h
  simp only [cellsAll]
  rw [av_congr fun t ht=>h t (.inl ht),cellsAll_congr fun t ht=>h t (.inr ht)]
theorem evR_congr {r:R} (h:∀ t∈usR r,fget fr t=fget fr' t):evR cf fr S r=evR cf fr' S r:=by
 cases r <;> simp only [usR,List.mem_append] at h <;> simp only [evR]
 case mv x=>rw [av_congr h]
 case nilck x=>rw [av_congr h]
 case pick c a b=>rw [av_congr fun t ht=>h t (.inl ht),av_congr (x:=a) fun t ht=>h t (.inr (.inl ht)),av_congr (x:=b) fun t ht=>h t (.inr (.inr ht))]
 case box k g x=>rw [av_congr h]
 case bld z ps=>rw [bldD_congr h]
 case bsl k g own xs=>rw [cellsAll_congr h]
 case bsa k g xs=>rw [cellsAll_congr h]
 case ld k g x=>rw [av_congr h]
 case st k g a v=>rw [av_congr fun t ht=>h t (.inl ht),av_congr (x:=v) fun t ht=>h t (.inr ht)]
 case bin op q x y=>rw [av_congr fun t ht=>h t (.inl ht),av_congr (x:=y) fun t ht=>h t (.inr ht)]
 case un op x=>rw [av_congr h]
 case conv k x=>rw [av_congr h]
 case mkfn g cs=>rw [avs_congr h]
 case mksl k arr z n=>rw [av_congr h]
 case slc k x lo hi=>rw [av_congr fun t ht=>h t (.inl ht),avo_congr (x:=lo) fun t ht=>h t (.inr (.inl ht)),avo_congr (x:=hi) fun t ht=>h t (.inr (.inr ht))]
 case slcs x lo hi=>rw [av_congr fun t ht=>h t (.inl ht),avo_congr (x:=lo) fun t ht=>h t (.inr (.inl ht)),avo_congr (x:=hi) fun t ht=>h t (.inr (.inr ht))]
 case fa o x=>rw [av_congr h]
 case fld o k g x=>rw [av_congr h]
 case ia k x i=>rw [av_congr fun t ht=>h t (.inl ht),av_congr (x:=i) fun t ht=>h t (.inr ht)]
 case iaa n k x i=>rw [av_congr fun t ht=>h t (.inl ht),av_congr (x:=i) fun t ht=>h t (.inr ht)]
 case ixs x i=>rw [av_congr fun t ht=>h t (.inl ht),av_congr (x:=i) fun t ht=>h t (.inr ht)]
 case lk kk ok z m key=>rw [av_congr fun t ht=>h t (.inl ht),av_congr (x:=key) fun t ht=>h t (.inr ht)]
 case mu kk m key v=>rw [av_congr fun t ht=>h t (.inl ht),av_congr (x:=key) fun t ht=>h t (.inr (.inl ht)),av_congr (x:=v) fun t ht=>h t (.inr (.inr ht))]
 case ment kk z m key=>rw [av_congr fun t ht=>h t (.inl ht),av_congr (x:=key) fun t ht=>h t (.inr ht)]
 case est m j v=>rw [av_congr fun t ht=>h t (.inl ht),av_congr (x:=j) fun t ht=>h t (.inr (.inl ht)),av_congr (x:=v) fun t ht=>h t (.inr (.inr ht))]
 case ext x j=>rw [av_congr h]
 case len str x=>rw [av_congr h]
 case app k arr x y=>rw [av_congr fun t ht=>h t (.inl ht),av_congr (x:=y) fun t ht=>h t (.inr ht)]
 case mx x y=>rw [av_congr fun t ht=>h t (.inl ht),av_congr (x:=y) fun t ht=>h t (.inr ht)]
 case mn x y=>rw [av_congr fun t ht=>h t (.inl ht),av_congr (x:=y) fun t ht=>h t (.inr ht)]
 case clr k z x=>rw [av_congr h]
 case call g iso args=>rw [avs_congr h]
 case calld f iso args=>rw [av_congr fun t ht=>h t (.inl ht),avs_congr fun t ht=>h t (.inr ht)]
 case cmps x y=>rw [av_congr fun t ht=>h t (.inl ht),av_congr (x:=y) fun t ht=>h t (.inr ht)]
theorem wanted_congr {gd:Option (Nat × Bool)} (h:∀ t∈usG gd,fget fr t=fget fr' t):DE.wanted fr gd=DE.wanted fr' gd:=by
 cases gd with
 | none=>rfl
 | some p=>
  obtain ⟨t,b⟩:=p
  simp only [DE.wanted]
  rw [h t (by simp [usG])]
theorem map_snd {α β:Type} {x:Option α} {f:α→β} {T:Store} {r:β × Store} (h:(x.map fun y=>(f y,T))=some r):r.2=T:=by
 cases x with
 | none=>cases h
 | some y=>simp at h;rw [←h]
theorem evR_same {r:R} {d:D} (hk:kdX r=false) (h:evR cf fr S r=some (d,S')):S'=S:=by
 cases r <;> simp only [kdX,kdR] at hk <;> (try (cases hk;done)) <;> simp only [evR] at h
 case mv x=>injection h with h;injection h with _ h;exact h.symm
 case nilck x=>split at h <;> first | (injection h with h;injection h with _ h;exact h.symm) | cases h
 case pick c a b=>split at h <;> first | (injection h with h;injection h with _ h;exact h.symm) | cases h
 case bld z ps=>exact map_snd h
 case bsl k g own xs=>
  cases hc:cellsAll fr k g xs with
  | none=>simp [hc] at h
  | some l=>
   have hl:=cellsAll_length hc
   simp only [hc,Option.map_some,Option.some.injEq] at h
   cases own with
   | false=>simp at h;exact h.2.symm
   | true=>
    cases xs with
    | nil=>
     have:l=[]:=List.eq_nil_of_length_eq_zero (by simpa using hl)
     subst this
     simp at h;exact h.2.symm
    | cons x xs=>simp at hk
 case ld k g x=>exact map_snd h
 case bin op q x y=>exact map_snd h
 case un op x=>exact map_snd h
 case conv k x=>split at h <;> first | (injection h with h;injection h with _ h;exact h.symm) | cases h
 case mkfn g cs=>injection h with h;injection h with _ h;exact h.symm
 case slc k x lo hi=>exact map_snd h
 case slcs x lo hi=>exact map_snd h
 case fa o x=>split at h <;> first | (injection h with h;injection h with _ h;exact h.symm) | cases h
 case fld o k g x=>
  split at h
  ·exact map_snd h
  ·cases h
 case ia k x i=>exact map_snd h
 case iaa n k x i=>
  split at h
  ·split at h
   ·injection h with h;injection h with _ h;exact h.symm
   ·cases h
  ·cases h
 case ixs x i=>
  split at h
  ·split at h
   ·exact map_snd h
   ·cases h
  ·cases h
 case lk kk ok z m key=>
  split at h
  ·split at h
   ·injection h with h;injection h with _ h;exact h.symm
   ·split at h
    ·split at h <;> first | (injection h with h;injection h with _ h;exact h.symm) | cases h
    ·cases h
   ·cases h
  ·cases h
 case ext x j=>
  split at h
  ·exact map_snd h
  ·cases h
 case len str x=>split at h <;> first | (injection h with h;injection h with _ h;exact h.symm) | cases h
 case mx x y=>
  split at h
  ·split at h
   ·injection h with h;injection h with _ h;exact h.symm
   ·cases h
  ·cases h
 case mn x y=>
  split at h
  ·split at h
   ·injection h with h;injection h with _ h;exact h.symm
   ·cases h
  ·cases h
 case call g iso args=>
  cases iso with
  | false=>simp at hk
  | true=>simp only [callR,if_true] at h;exact map_snd h
 case calld f iso args=>
  cases iso with
  | false=>simp at hk
  | true=>
   split at h
   ·simp only [callR,if_true] at h;exact map_snd h
   ·cases h
 case cmps x y=>split at h <;> first | (injection h with h;injection h with _ h;exact h.symm) | cases h
theorem map_any {α β:Type} {x:Option α} {f:α→β} {T T':Store} {d:β} (h:(x.map fun y=>(f y,T))=some (d,T)):(x.map fun y=>(f y,T'))=some (d,T'):=by
 cases x with
 | none=>cases h
 | some y=>simp at h ⊢;exact h
theorem evR_any {r:R} {d:D} (hk:kdP r=true) (h:evR cf fr S r=some (d,S)) (T:Store):evR cf fr T r=some (d,T):=by
 cases r <;> simp only [kdP,kdR] at hk <;> (try (cases hk;done)) <;> simp only [evR] at h ⊢
 case mv x=>injection h with h;injection h with h _;rw [h]
 case nilck x=>split at h <;> first | (injection h with h;injection h with h _;rw [←h]) | cases h
 case pick c a b=>split at h <;> first | (injection h with h;injection h with h _;rw [←h]) | cases h
 case bld z ps=>exact map_any h
 case bsl k g own xs=>
  cases hc:cellsAll fr k g xs with
  | none=>simp [hc] at h
  | some l=>
   have hl:=cellsAll_length hc
   simp only [hc,Option.map_some,Option.some.injEq] at h ⊢
   cases own with
   | false=>simp at h ⊢;exact h
   | true=>
    cases xs with
    | nil=>
     have:l=[]:=List.eq_nil_of_length_eq_zero (by simpa using hl)
     subst this
     simp at h ⊢;exact h
    | cons x xs=>simp at hk
 case bin op q x y=>exact map_any h
 case un op x=>exact map_any h
 case conv k x=>split at h <;> first | (injection h with h;injection h with h _;rw [←h]) | cases h
 case mkfn g cs=>injection h with h;injection h with h _;rw [h]
 case slc k x lo hi=>exact map_any h
 case slcs x lo hi=>exact map_any h
 case fa o x=>split at h <;> first | (injection h with h;injection h with h _;rw [←h]) | cases h
 case fld o k g x=>
  split at h
  ·exact map_any h
  ·cases h
 case ia k x i=>exact map_any h
 case iaa n k x i=>
  split at h
  ·split at h
   ·rename_i hc
    rw [if_pos hc]
    injection h with h;injection h with h _;rw [h]
   ·cases h
  ·cases h
 case ixs x i=>
  split at h
  ·split at h
   ·rename_i hc
    rw [if_pos hc]
    exact map_any h
   ·cases h
  ·cases h
 case ext x j=>
  split at h
  ·exact map_any h
  ·cases h
 case len str x=>split at h <;> first | (injection h with h;injection h with h _;rw [←h]) | cases h
 case mx x y=>
  split at h
  ·split at h
   ·rename_i hc
    rw [if_pos hc]
    injection h with h;injection h with h _;rw [h]
   ·cases h
  ·cases h
 case mn x y=>
  split at h
  ·split at h
   ·rename_i hc
    rw [if_pos hc]
    injection h with h;injection h with h _;rw [h]
   ·cases h
  ·cases h
 case call g iso args=>
  cases iso with
  | false=>simp at hk
  | true=>simp only [callR,if_true] at h ⊢;exact map_any h
 case calld f iso args=>
  cases iso with
  | false=>simp at hk
  | true=>
   split at h
   ·simp only [callR,if_true] at h ⊢;exact map_any h
   ·cases h
 case cmps x y=>split at h <;> first | (injection h with h;injection h with h _;rw [←h]) | cases h
end
end Go.Proofs.YtjniafcnjbbomaaGreatDoor.DE

namespace Go.Proofs.YtjniafcnjbbomaaGreatDoor.DE
open Go
theorem oeq_eq {a b:Own} (h:oeq a b=true):a=b:=by
 cases a <;> cases b <;> simp_all [oeq]
mutual
theorem deq_eq:∀ {x y:D},deq x y=true→x=y
 | .top,y,h=>by cases y <;> simp_all [deq]
 | .b x,y,h=>by cases y <;> simp_all [deq]
 | .i k x,y,h=>by cases y <;> simp_all [deq]
 | .s x,y,h=>by cases y <;> simp_all [deq]
 | .sl k n xs o,y,h=>by
  cases y <;> simp only [deq,Bool.and_eq_true,beq_iff_eq] at h <;> try (cases h;done)
  obtain ⟨⟨⟨rfl,rfl⟩,h1⟩,h2⟩:=h
  rw [oeq_eq h1,deqLL_eq h2]
 | .agg x,y,h=>by
  cases y <;> simp only [deq] at h <;> try (cases h;done)
  rw [deqL_eq h]
 | .tup x,y,h=>by
  cases y <;> simp only [deq] at h <;> try (cases h;done)
  rw [deqL_eq h]
 | .bx a b,y,h=>by cases y <;> simp_all [deq]
 | .el x a,y,h=>by
  cases y <;> simp only [deq,Bool.and_eq_true,beq_iff_eq] at h <;> try (cases h;done)
  rw [h.1,deqL_eq h.2]
 | .ar a b c d,y,h=>by cases y <;> simp_all [deq]
 | .nilp,y,h=>by cases y <;> simp_all [deq]
 | .nilm,y,h=>by cases y <;> simp_all [deq]
 | .mp a,y,h=>by cases y <;> simp_all [deq]
 | .fn a x,y,h=>by
  cases y <;> simp only [deq,Bool.and_eq_true,beq_iff_eq] at h <;> try (cases h;done)
  rw [h.1,deqL_eq h.2]
theorem deqL_eq:∀ {x y:List D},deqL x y=true→x=y
 | [],[],_=>rfl
 | [],_::_,h=>by simp [deqL] at h
 | _::_,[],h=>by simp [deqL] at h
 | x::l,y::m,h=>by
  simp only [deqL,Bool.and_eq_true] at h
  rw [deq_eq h.1,deqL_eq h.2]
theorem deqLL_eq:∀ {x y:List (List D)},deqLL x y=true→x=y
 | [],[],_=>rfl
 | [],_::_,h=>by simp [deqLL] at h
 | _::_,[],h=>by simp [deqLL] at h
 | x::l,y::m,h=>by
  simp only [deqLL,Bool.and_eq_true] at h
  rw [deqL_eq h.1,deqLL_eq h.2]
end
section
variable {cf:CallF} {fr fr':List D} {S S':Store}
def Hold (cf:CallF) (frp fr':List D) (S1 S2:Store) (i:I):Prop:=
 ∀ dst gd r,asOp i=some (dst,gd,r)→∃ b,DE.wanted frp gd=some b ∧
  (b=true→∃ d,evR cf frp S1 r=some (d,S2)∧∀ t,dst=some t→fget fr' t=if t<fr'.length then d else .top) ∧
  (b=false→S2=S1∧∀ t,dst=some t→fget fr' t=if t<fr'.length then .tup [] else .top)
theorem fget_fsetO (fr:List D) (dst:Option Nat) (d:D) (t:Nat) (h:dst≠some t):fget (fsetO fr dst d) t=fget fr t:=by
 cases dst with
 | none=>rfl
 | some u=>
  simp only [fsetO,fget_fset]
  rw [if_neg (fun hh=>h (by rw [hh.1]))]
theorem fget_fsetO_self (fr:List D) (t:Nat) (d:D):fget (fsetO fr (some t) d) t=if t<fr.length then d else .top:=by
 simp only [fsetO,fget_fset,true_and]
 by_cases h:t<fr.length
 ·rw [if_pos h,if_pos h]
 ·rw [if_neg h,if_neg h,fget_ge _ _ (by omega)]
theorem fsetO_length (fr:List D) (dst:Option Nat) (d:D):(fsetO fr dst d).length=fr.length:=by
 cases dst with
 | none=>rfl
 | some t=>exact fset_length _ _ _
theorem evI_frame {i:I} (hfz:asOp i≠none) (h:evI cf fr S i=some (fr',S')):fr'.length=fr.length∧∀ t,dstI i≠some t→fget fr' t=fget fr t:=by
 cases i with
 | op dst gd r=>
  simp only [evI] at h
  split at h
  ·cases hr:evR cf fr S r with
   | none=>simp [hr] at h
   | some p=>
    simp only [hr,Option.map_some,Option.some.injEq,Prod.mk.injEq] at h
    obtain ⟨rfl,rfl⟩:=h
    exact ⟨fsetO_length _ _ _,fun t ht=>fget_fsetO _ _ _ _ ht⟩
  ·simp only [Option.some.injEq,Prod.mk.injEq] at h
   obtain ⟨rfl,rfl⟩:=h
   exact ⟨fsetO_length _ _ _,fun t ht=>fget_fsetO _ _ _ _ ht⟩
  ·cases h
 | fz t=>simp [asOp] at hfz
 | ck t r=>
  simp only [evI] at h
  split at h
  ·split at h
   ·simp only [Option.some.injEq,Prod.mk.injEq] at h
    obtain ⟨rfl,rfl⟩:=h
    exact ⟨rfl,fun _ _=>rfl⟩
   ·cases h
  ·cases h
theorem evI_store {i:I} (hx:isX i=false) (hck:ckOk i=true) (hfz:asOp i≠none) (h:evI cf fr S i=some (fr',S')):S'=S:=by
 cases i with
 | op dst gd r=>
  simp only [evI] at h
  split at h
  ·cases hr:evR cf fr S r with
   | none=>simp [hr] at h
   | some p=>
    simp only [hr,Option.map_some,Option.some.injEq,Prod.mk.injEq] at h
    obtain ⟨rfl,rfl⟩:=h
    exact evR_same (d:=p.1) (by simpa [isX,kdX] using hx) hr
  ·simp only [Option.some.injEq,Prod.mk.injEq] at h
   exact h.2.symm
  ·cases h
 | fz t=>simp [asOp] at hfz
 | ck t r=>
  simp only [evI] at h
  split at h
  ·split at h
   ·simp only [Option.some.injEq,Prod.mk.injEq] at h
    exact h.2.symm
   ·cases h
  ·cases h
theorem noDst_get {u:Nat} {l:List (Nat × I)} (h:noDst u l=true):∀ q∈l,dstI q.2≠some u:=fun q hq=>by
 simpa using List.all_eq_true.1 h q hq
theorem evI_hold {i:I} {fr1:List D} {S1:Store} (hck:ckOk i=true) (h:evI cf fr S i=some (fr1,S1)) (hl:fr'.length=fr.length)
  (hd:∀ t,(dstI i=some t∨∃ r,i = .ck t r)→fget fr' t=fget fr1 t):Hold cf fr fr' S S1 i:=by
 intro dst gd r ha
 cases i with
 | op dst' gd' r'=>
  simp only [asOp,Option.some.injEq,Prod.mk.injEq] at ha
  obtain ⟨rfl,rfl,rfl⟩:=ha
  simp only [evI] at h
  split at h
  ·rename_i hwt
   refine ⟨true,hwt,fun _=>?_,fun h=>(by cases h)⟩
   cases he:evR cf fr S r' with
   | none=>simp [he] at h
   | some p=>
    simp only [he,Option.map_some,Option.some.injEq,Prod.mk.injEq] at h
    obtain ⟨rfl,rfl⟩:=h
    refine ⟨p.1,rfl,fun t ht=>?_⟩
    subst ht
    rw [hd t (.inl rfl),fget_fsetO_self,hl]
  ·rename_i hwf
   simp only [Option.some.injEq,Prod.mk.injEq] at h
   obtain ⟨rfl,rfl⟩:=h
   refine ⟨false,hwf,fun h=>(by cases h),fun _=>⟨rfl,fun t ht=>?_⟩⟩
   subst ht
   rw [hd t (.inl rfl),fget_fsetO_self,hl]
  ·cases h
 | fz t=>simp [asOp] at ha
 | ck t r'=>
  simp only [asOp,Option.some.injEq,Prod.mk.injEq] at ha
  obtain ⟨rfl,rfl,rfl⟩:=ha
  refine ⟨true,rfl,fun _=>?_,fun h=>(by cases h)⟩
  simp only [evI] at h
  split at h
  ·rename_i d T he
   split at h
   ·rename_i hdq
    simp only [Option.some.injEq,Prod.mk.injEq] at h
    obtain ⟨rfl,rfl⟩:=h
    have hk:kdX r'=false:=by simpa [ckOk] using hck
    have:=evR_same (d:=d) hk he
    subst this
    refine ⟨d,he,fun u hu=>?_⟩
    injection hu with hu;subst hu
    rw [hd t (.inr ⟨r',rfl⟩),deq_eq hdq,hl]
    by_cases hlt:t<fr.length
    ·rw [if_pos hlt]
    ·rw [if_neg hlt,fget_ge _ _ (by omega)]
   ·cases h
  ·cases h
theorem trace:∀ (is:List (Nat × I)) {fr S fr' S'},evIs cf fr S (snds is)=some (fr',S')→uniq is=true→(∀ q∈is,asOp q.2≠none∧ckOk q.2=true) →
  fr'.length=fr.length∧(∀ t,(∀ q∈is,dstI q.2≠some t)→fget fr' t=fget fr t) ∧
  ∃ sto:Nat→Store,sto 0=S∧sto (nX is)=S'∧∀ pre j i post,is=pre++(j,i)::post→∃ frp,frp.length=fr.length∧(∀ u,noDst u pre=true→fget frp u=fget fr u) ∧
   (∀ u,noDst u ((j,i)::post)=true→fget frp u=fget fr' u)∧Hold cf frp fr' (sto (nX pre)) (sto (nX pre+if isX i then 1 else 0)) i
 | [],fr,S,fr',S',h,_,_=>by
  simp only [snds,evIs,Option.some.injEq,Prod.mk.injEq] at h
  obtain ⟨rfl,rfl⟩:=h
  exact ⟨rfl,fun _ _=>rfl,fun _=>S,rfl,rfl,fun pre j i post h=>by cases pre <;> cases h⟩
 | (j,i)::is,fr,S,fr',S',h,hsep,hok=>by
  simp only [snds,evIs] at h
  split at h
  ·rename_i fr1 S1 he
   simp only [uniq,Bool.and_eq_true] at hsep
   obtain ⟨hs2,hs3⟩:=hsep
   obtain ⟨hfz,hck⟩:=hok (j,i) (by simp)
   obtain ⟨hl,hun,sto,e0,em,hhold⟩:=trace is h hs3 fun q hq=>hok q (by simp [hq])
   obtain ⟨hl1,hf1⟩:=evI_frame hfz he
   have hlen:fr'.length=fr.length:=hl.trans hl1
   have hunt:∀ t,(∀ q∈(j,i)::is,dstI q.2≠some t)→fget fr' t=fget fr t:=fun t ht=>
    (hun t fun q hq=>ht q (by simp [hq])).trans (hf1 t (ht (j,i) (by simp)))
   have hhd:Hold cf fr fr' S S1 i:=by
    refine evI_hold hck he hlen fun t ht=>hun t ?_
    rcases ht with ht | ⟨r,rfl⟩
    ·cases i with
     | op dst gd r=>
      simp only [dstI] at ht
      subst ht
      exact noDst_get hs2
     | fz u=>simp [asOp] at hfz
     | ck u r=>cases ht
    ·exact noDst_get hs2
   have head:∃ frp,frp.length=fr.length∧(∀ u,noDst u []=true→fget frp u=fget fr u)∧(∀ u,noDst u ((j,i)::is)=true→fget frp u=fget fr' u)∧Hold cf frp fr' S S1 i:=
    ⟨fr,rfl,fun _ _=>rfl,fun u hu=>(hunt u (noDst_get hu)).symm,hhd⟩
   have later:∀ pre j' i' post T1 T2,(∃ frp,frp.length=fr1.length∧(∀ u,noDst u pre=true→fget frp u=fget fr1 u)∧(∀ u,noDst u ((j',i')::post)=true→fget frp u=fget fr' u)∧Hold cf frp fr' T1 T2 i') →
     ∃ frp,frp.length=fr.length∧(∀ u,noDst u ((j,i)::pre)=true→fget frp u=fget fr u)∧(∀ u,noDst u ((j',i')::post)=true→fget frp u=fget fr' u)∧Hold cf frp fr' T1 T2 i':=by
    rintro pre j' i' post T1 T2 ⟨frp,a1,a2,a3,a4⟩
    refine ⟨frp,a1.trans hl1,fun u hu=>?_,a3,a4⟩
    have hu':=noDst_get hu
    rw [a2 u (by simp only [noDst,List.all_cons,Bool.and_eq_true] at hu ⊢;exact hu.2)]
    exact hf1 u (hu' (j,i) (by simp))
   cases hx:isX i with
   | false=>
    have hst:=evI_store hx hck hfz he
    subst hst
    refine ⟨hlen,hunt,sto,e0,by simp only [nX,hx];simpa using em,fun pre j' i' post hp=>?_⟩
    cases pre with
    | nil=>
     simp only [List.nil_append,List.cons.injEq,Prod.mk.injEq] at hp
     obtain ⟨⟨rfl,rfl⟩,rfl⟩:=hp
     simp only [nX,hx,Bool.false_eq_true,if_false,Nat.add_zero,e0]
     exact head
    | cons q pre=>
     simp only [List.cons_append,List.cons.injEq] at hp
     obtain ⟨rfl,hp⟩:=hp
     simp only [nX,hx,Bool.false_eq_true,if_false,Nat.zero_add]
     exact later pre j' i' post _ _ (hhold pre j' i' post hp)
   | true=>
    refine ⟨hlen,hunt,fun n=>match n with | 0=>S | n+1=>sto n,rfl,by simp only [nX,hx,if_true];rw [Nat.add_comm];exact em,fun pre j' i' post hp=>?_⟩
    cases pre with
    | nil=>
     simp only [List.nil_append,List.cons.injEq,Prod.mk.injEq] at hp
     obtain ⟨⟨rfl,rfl⟩,rfl⟩:=hp
     simp only [nX,hx,if_true,Nat.zero_add,e0]
     exact head
    | cons q pre=>
     simp only [List.cons_append,List.cons.injEq] at hp
     obtain ⟨rfl,hp⟩:=hp
     have:=later pre j' i' post _ _ (hhold pre j' i' post hp)
     simp only [nX,hx,if_true]
     rw [Nat.add_comm 1 (nX pre),Nat.add_right_comm]
     exact this
  ·cases h
theorem usesOk_get {ops:List Oper} {B:List Nat}:∀ {l pre:List (Nat × I)},usesOk ops B pre l=true→∀ p j i post,l=p++(j,i)::post→useOk ops B (pre++p) j i post=true
 | [],_,_,p,j,i,post,h=>by cases p <;> cases h
 | (j',i')::l,pre,hu,p,j,i,post,h=>by
  simp only [usesOk,Bool.and_eq_true] at hu
  cases p with
  | nil=>
   simp only [List.nil_append,List.cons.injEq,Prod.mk.injEq] at h
   obtain ⟨⟨rfl,rfl⟩,rfl⟩:=h
   simpa using hu.1
  | cons q p=>
   simp only [List.cons_append,List.cons.injEq] at h
   obtain ⟨rfl,h⟩:=h
   have:=usesOk_get hu.2 p j i post h
   simpa using this
end
inductive Bef (ops:List Oper):Nat→Nat→Prop
 | edge {j:Nat} {o:Oper} {e:Edge} (ho:ops[j]? = some o) (he:e∈o.after.toList) (hb:Region.binds .any e=true):Bef ops e.on j
 | step {q j:Nat} {o:Oper} {e:Edge} (ho:ops[j]? = some o) (he:e∈o.after.toList) (hb:Region.binds .any e=true) (h:Bef ops q e.on):Bef ops q j
theorem fold_bit (acc:List Nat):∀ (l:List Edge) (s q:Nat),(l.foldl (fun s e=>if Region.binds .any e then s ||| 2 ^ e.on ||| acc.getD e.on 0 else s) s).testBit q=true →
  s.testBit q=true∨∃ e∈l,Region.binds .any e=true∧(q=e.on∨(acc.getD e.on 0).testBit q=true)
 | [],s,q,h=>.inl h
 | e::l,s,q,h=>by
  simp only [List.foldl_cons] at h
  rcases fold_bit acc l _ q h with h | ⟨e',he',h1,h2⟩
  ·split at h
   ·rename_i hb
    simp only [Nat.testBit_or,Bool.or_eq_true,Nat.testBit_two_pow,decide_eq_true_eq] at h
    rcases h with (h | h) | h
    ·exact .inl h
    ·exact .inr ⟨e,by simp,hb,.inl h.symm⟩
    ·exact .inr ⟨e,by simp,hb,.inr h⟩
   ·exact .inl h
  ·exact .inr ⟨e',by simp [he'],h1,h2⟩
theorem befores_ok:∀ (l pre:List Oper) (acc:List Nat),acc.length=pre.length→(∀ j q,(acc.getD j 0).testBit q=true→Bef (pre++l) q j) →
  ∀ j q,((befores l acc).getD j 0).testBit q=true→Bef (pre++l) q j
 | [],pre,acc,_,h=>h
 | o::l,pre,acc,hl,h=>by
  intro j q hq
  have e:pre++o::l=(pre++[o])++l:=by simp
  simp only [befores] at hq
  rw [e]
  refine befores_ok l (pre++[o]) _ (by simp [hl]) (fun j q hj=>?_) j q hq
  rw [←e]
  by_cases h1:j<acc.length
  ·refine h j q ?_
   rw [List.getD_eq_getElem?_getD,List.getElem?_append_left h1,←List.getD_eq_getElem?_getD] at hj
   exact hj
  ·by_cases h2:j=acc.length
   ·subst h2
    rw [List.getD_eq_getElem?_getD,List.getElem?_append_right (Nat.le_refl _)] at hj
    simp only [Nat.sub_self,List.getElem?_cons_zero,Option.getD_some] at hj
    have ho:(pre++o::l)[acc.length]? = some o:=by rw [hl];simp
    rcases fold_bit acc _ _ _ hj with h3 | ⟨e',he',hb,h3 | h3⟩
    ·simp at h3
    ·subst h3
     exact .edge ho he' hb
    ·exact .step ho he' hb (h _ _ h3)
   ·rw [List.getD_eq_getElem?_getD,List.getElem?_eq_none (by simp;omega)] at hj
    simp at hj
theorem bbit_bef {ops:List Oper} {q j:Nat} (h:bbit (befores ops []) q j=true):Bef ops q j:=
 befores_ok ops [] [] rfl (fun j q h=>by simp at h) j q h
theorem Bef.closed {ops:List Oper} {L:Nat→Prop} (hcl:∀ j o e,L j→ops[j]? = some o→e∈o.after.toList→Region.binds .any e=true→L e.on) {q j:Nat} (h:Bef ops q j) :
  (∀ o e,ops[j]? = some o→e∈o.after.toList→Region.binds .any e=true→L e.on)→L q:=by
 induction h with
 | edge ho he hb=>exact fun hj=>hj _ _ ho he hb
 | step ho he hb h ih=>exact fun hj=>ih fun o e h1 h2 h3=>hcl _ o e (hj _ _ ho he hb) h1 h2 h3
theorem mem_ann:∀ {is:List (Nat × I)} {n k j:Nat} {i:I},(k,j,i)∈ann n is→∃ pre post,is=pre++(j,i)::post∧k=n+nX pre
 | [],_,_,_,_,h=>by simp [ann] at h
 | (j',i')::is,n,k,j,i,h=>by
  simp only [ann,List.mem_cons,Prod.mk.injEq] at h
  rcases h with ⟨rfl,rfl,rfl⟩ | h
  ·exact ⟨[],is,rfl,by simp [nX]⟩
  ·obtain ⟨pre,post,h1,h2⟩:=mem_ann h
   refine ⟨(j',i')::pre,post,by rw [h1];rfl,?_⟩
   simp only [nX]
   omega
theorem xs_get:∀ {is pre:List (Nat × I)} {j:Nat} {i:I} {post:List (Nat × I)},is=pre++(j,i)::post→isX i=true→(xsOf is)[nX pre]? = some j
 | _,[],j,i,post,rfl,hx=>by simp [xsOf,hx,nX]
 | _,(j',i')::pre,j,i,post,rfl,hx=>by
  have ih:=xs_get (is:=pre++(j,i)::post) rfl hx
  simp only [List.cons_append,xsOf,nX]
  split
  ·rw [Nat.add_comm,List.getElem?_cons_succ];exact ih
  ·rw [Nat.zero_add];exact ih
theorem xs_ann:∀ {is:List (Nat × I)} {p j:Nat} (n:Nat),(xsOf is)[p]? = some j→∃ i,(n+p,j,i)∈ann n is∧isX i=true
 | [],_,_,_,h=>by simp [xsOf] at h
 | (j',i')::is,p,j,n,h=>by
  simp only [xsOf] at h
  simp only [ann]
  cases hx:isX i' with
  | true=>
   rw [hx,if_pos rfl] at h
   cases p with
   | zero=>
    simp at h;subst h
    exact ⟨i',by simp,hx⟩
   | succ p=>
    obtain ⟨i,h1,h2⟩:=xs_ann (1+n) (by simpa using h)
    refine ⟨i,?_,h2⟩
    simp only [if_true,List.mem_cons]
    rw [show n+(p+1)=1+n+p by omega]
    exact .inr h1
  | false=>
   rw [hx] at h
   simp only [Bool.false_eq_true,if_false] at h
   obtain ⟨i,h1,h2⟩:=xs_ann (0+n) h
   refine ⟨i,?_,h2⟩
   simp only [Bool.false_eq_true,if_false,List.mem_cons]
   rw [Nat.zero_add] at h1 ⊢
   exact .inr h1
theorem xs_len:∀ (is:List (Nat × I)),(xsOf is).length=nX is
 | []=>rfl
 | (j,i)::is=>by
  simp only [xsOf,nX]
  split
  ·simp [xs_len is];omega
  ·simp [xs_len is]
theorem ndB_ne:∀ {l:List Nat} {i j x y:Nat},ndB l=true→l[i]? = some x→l[j]? = some y→i≠j→x≠y
 | [],_,_,_,_,_,h,_,_=>by simp at h
 | a::l,0,0,_,_,_,_,_,h=>absurd rfl h
 | a::l,0,j+1,x,y,hn,h1,h2,_=>by
  simp only [ndB,Bool.and_eq_true,List.all_eq_true] at hn
  simp at h1 h2
  have:=hn.1 y (List.mem_of_getElem? h2)
  simp at this
  rw [←h1];exact fun e=>this e.symm
 | a::l,i+1,0,x,y,hn,h1,h2,_=>by
  simp only [ndB,Bool.and_eq_true,List.all_eq_true] at hn
  simp at h1 h2
  have:=hn.1 x (List.mem_of_getElem? h1)
  simp at this
  rw [←h2];exact this
 | a::l,i+1,j+1,x,y,hn,h1,h2,h=>by
  simp only [ndB,Bool.and_eq_true] at hn
  exact ndB_ne hn.2 (by simpa using h1) (by simpa using h2) (by omega)
theorem chain_get {B:List Nat}:∀ {l:List Nat} {i x y:Nat},chainB B l=true→l[i]? = some x→l[i+1]? = some y→bbit B x y=true
 | [],_,_,_,_,h,_=>by simp at h
 | [_],0,_,_,_,_,h=>by simp at h
 | [_],_+1,_,_,_,h,_=>by simp at h
 | a::b::l,0,x,y,hc,h1,h2=>by
  simp only [chainB,Bool.and_eq_true] at hc
  simp at h1 h2
  subst h1 h2
  exact hc.1
 | a::b::l,i+1,x,y,hc,h1,h2=>by
  simp only [chainB,Bool.and_eq_true] at hc
  exact chain_get hc.2 (by simpa using h1) (by simpa using h2)
theorem count_lt {p p':Nat→Bool}:∀ {l:List Nat} {x:Nat},(∀ y∈l,p' y=true→p y=true)→x∈l→p x=true→p' x=false→l.countP p'<l.countP p
 | [],_,_,h,_,_=>by simp at h
 | y::l,x,hm,hx,h1,h2=>by
  have hle:l.countP p'≤l.countP p:=List.countP_mono_left fun z hz=>hm z (by simp [hz])
  simp only [List.countP_cons]
  by_cases hxy:x=y
  ·subst hxy
   simp [h1,h2];omega
  ·have:=count_lt (p:=p) (p':=p') (l:=l) (fun z hz=>hm z (by simp [hz])) (by simpa [hxy] using hx) h1 h2
   have hy:=hm y (by simp)
   cases hp:p' y with
   | false=>simp;omega
   | true=>simp [hy hp];omega
end Go.Proofs.YtjniafcnjbbomaaGreatDoor.DE

namespace Go.Proofs.YtjniafcnjbbomaaGreatDoor.DE
open Go
section
variable {P:Program} {dp:Nat→Option Fn} {F F':Fix} {G G':List Gh} {w w':World} {S S':Store} {a:Act} {fr fr':List D} {o:Oper} {d:D} {cf:CallF}
theorem wanted_run {ops:Array Oper} {gd:Option (Nat × Bool)} {b:Bool} (hm:mGd ops.toList o.guard gd=true) (hf:Fr dp F G w a fr) (hw:DE.wanted fr gd=some b):Region.wanted o (yielded ops a.tmps)=b:=by
 unfold mGd at hm
 split at hm
 ·rename_i h1
  simp only [DE.wanted,Option.some.injEq] at hw
  simp [Region.wanted,h1,hw]
 ·rename_i j x t y h1
  simp only [Bool.and_eq_true,beq_iff_eq] at hm
  obtain ⟨rfl,hm⟩:=hm
  split at hm
  ·rename_i op hop
   split at hm
   ·rename_i u hu
    simp only [beq_iff_eq] at hm
    subst hm
    have hr:=hf.rel u
    have hop':ops[j]? = some op:=by simpa using hop
    simp only [Region.wanted,h1]
    simp only [DE.wanted] at hw
    cases ht:a.tmps[u]? with
    | none=>
     have hy:yielded ops a.tmps j=none:=by simp [yielded,hop',hu,ht]
     rw [hy]
     have hg:a.tmps.getD u undef=undef:=by simp [ht]
     rw [hg] at hr
     split at hw
     ·rename_i y hy'
      rw [hy'] at hr
      cases hr
     ·simp only [Option.some.injEq] at hw
      subst hw
      rfl
     ·cases hw
    | some v=>
     have hg:a.tmps.getD u undef=v:=by simp [ht]
     rw [hg] at hr
     split at hw
     ·rename_i y hy'
      rw [hy'] at hr
      cases hr
      have hy:yielded ops a.tmps j=some y:=by simp [yielded,hop',hu,ht]
      rw [hy]
      simp only [Option.some.injEq] at hw
      rw [←hw]
      simp
     ·rename_i hy'
      rw [hy'] at hr
      cases hr
      have hy:yielded ops a.tmps j=none:=by simp [yielded,hop',hu,ht]
      rw [hy]
      simp only [Option.some.injEq] at hw
      rw [←hw]
      rfl
     ·cases hw
   ·cases hm
  ·cases hm
 ·cases hm
theorem rel_undef:Rel dp F G w undef (.tup []):=.tup #[] [] rfl fun j v d h=>by simp at h
theorem put_defers (a:Act) (t:Option Nat) (v:Value):(a.put t v).defers=a.defers:=by
 cases t <;> rfl
theorem step_op {ops:Array Oper} {Q:Exit→Act→World→Prop} {K:Act→World→Prop} {dst:Option Nat} {gd:Option (Nat × Bool)} {r:R} {b:Bool} (hc:CallOk P dp cf) (hen:Enter P dp)
  (hm:mI P dp ops.toList o (.op dst gd r)=true) (hs:Sim dp F G w S) (hf:Fr dp F G w a fr) (hw:DE.wanted fr gd=some b)
  (hd:(b=true∧evR cf fr S r=some (d,S'))∨(b=false∧d = .tup []∧S'=S))
  (hK:∀ a' w' F' G',Sim dp F' G' w' S'→Ext F G w S F' G' w' S'→Fr dp F' G' w' a' (fsetO fr dst d)→a'.defers=a.defers→K a' w') :
  if Region.wanted o (yielded ops a.tmps) then o.wp P a w K Q∨(o.asks P a w∧LetsOut Q) else K (a.put o.dst undef) w:=by
 simp only [mI,Bool.and_eq_true] at hm
 obtain ⟨⟨h1,h2⟩,h3⟩:=hm
 have hdst:o.dst=dst:=by
  unfold mDst at h1
  split at h1
  ·rename_i e;rw [e]
  ·rename_i e;rw [e];simpa using h1
  ·cases h1
 rw [wanted_run h2 hf hw]
 rcases hd with ⟨rfl,he⟩ | ⟨rfl,rfl,rfl⟩
 ·simp only [if_true]
  refine .inl (ok_R hc hen h3 hs hf he K Q fun v w' F' G' k1 k2 k3=>hK _ w' F' G' k1 k2 ?_ (put_defers _ _ _))
  rw [hdst]
  exact (hf.ext k2).put dst k3
 ·simp only [Bool.false_eq_true,if_false]
  refine hK _ w F G hs (Ext.refl _ _ _ _) ?_ (put_defers _ _ _)
  rw [hdst]
  exact hf.put dst rel_undef
theorem step_op' {ops:Array Oper} {Q:Exit→Act→World→Prop} {K:Act→World→Prop} {dst:Option Nat} {gd:Option (Nat × Bool)} {r:R} {b:Bool} (hc:CallOk P dp cf) (hen:Enter P dp)
  (hm:mI P dp ops.toList o (.op dst gd r)=true) (hs:Sim dp F G w S) (hf:Fr dp F G w a fr) (hw:DE.wanted fr gd=some b)
  (hd:(b=true∧evR cf fr S r=some (d,S'))∨(b=false∧d = .tup []∧S'=S))
  (hK:∀ v w' F' G',Sim dp F' G' w' S'→Ext F G w S F' G' w' S'→Fr dp F' G' w' (a.put o.dst v) (fsetO fr dst d)→K (a.put o.dst v) w') :
  if Region.wanted o (yielded ops a.tmps) then o.wp P a w K Q∨(o.asks P a w∧LetsOut Q) else K (a.put o.dst undef) w:=by
 simp only [mI,Bool.and_eq_true] at hm
 obtain ⟨⟨h1,h2⟩,h3⟩:=hm
 have hdst:o.dst=dst:=by
  unfold mDst at h1
  split at h1
  ·rename_i e;rw [e]
  ·rename_i e;rw [e];simpa using h1
  ·cases h1
 rw [wanted_run h2 hf hw]
 rcases hd with ⟨rfl,he⟩ | ⟨rfl,rfl,rfl⟩
 ·simp only [if_true]
  refine .inl (ok_R hc hen h3 hs hf he K Q fun v w' F' G' k1 k2 k3=>hK v w' F' G' k1 k2 ?_)
  rw [hdst]
  exact (hf.ext k2).put dst k3
 ·simp only [Bool.false_eq_true,if_false]
  refine hK undef w F G hs (Ext.refl _ _ _ _) ?_
  rw [hdst]
  exact hf.put dst rel_undef
theorem evI_op {dst:Option Nat} {gd:Option (Nat × Bool)} {r:R} {fr1:List D} {S1:Store} (h:evI cf fr S (.op dst gd r)=some (fr1,S1)) :
  ∃ b d,DE.wanted fr gd=some b∧((b=true∧evR cf fr S r=some (d,S1))∨(b=false∧d = .tup []∧S1=S))∧fr1=fsetO fr dst d:=by
 simp only [evI] at h
 split at h
 ·rename_i hw
  cases hr:evR cf fr S r with
  | none=>simp [hr] at h
  | some p=>
   simp only [hr,Option.map_some,Option.some.injEq,Prod.mk.injEq] at h
   obtain ⟨rfl,rfl⟩:=h
   exact ⟨true,p.1,hw,.inl ⟨rfl,rfl⟩,rfl⟩
 ·rename_i hw
  simp only [Option.some.injEq,Prod.mk.injEq] at h
  obtain ⟨rfl,rfl⟩:=h
  exact ⟨false,.tup [],hw,.inr ⟨rfl,rfl,rfl⟩,rfl⟩
 ·cases h
theorem ok_reg {ops:Array Oper} {Q:Exit→Act→World→Prop} (hc:CallOk P dp cf) (hen:Enter P dp):∀ (is:List I) (l:List Oper) {fr S fr' S' F G w a},mReg P dp ops.toList l is=true→evIs cf fr S is=some (fr',S') →
  Sim dp F G w S→Fr dp F G w a fr→(∀ a' w' F' G',Sim dp F' G' w' S'→Ext F G w S F' G' w' S'→Fr dp F' G' w' a' fr'→a'.defers=a.defers→Q .normal a' w')→wpList P ops Q l a w
 | [],l,fr,S,fr',S',F,G,w,a,hm,he,hs,hf,hQ=>by
  cases l with
  | nil=>
   simp only [evIs,Option.some.injEq,Prod.mk.injEq] at he
   obtain ⟨rfl,rfl⟩:=he
   exact hQ a w F G hs (Ext.refl _ _ _ _) hf rfl
  | cons o l=>simp [mReg] at hm
 | i::is,l,fr,S,fr',S',F,G,w,a,hm,he,hs,hf,hQ=>by
  simp only [evIs] at he
  split at he
  ·rename_i fr1 S1 hi
   cases i with
   | fz t=>
    have hm':mReg P dp ops.toList l is=true:=by cases l <;> simpa [mReg] using hm
    simp only [evI] at hi
    cases hz:fzD (fget fr t) S with
    | none=>simp [hz] at hi
    | some p=>
     simp only [hz,Option.map_some,Option.some.injEq,Prod.mk.injEq] at hi
     obtain ⟨rfl,rfl⟩:=hi
     obtain ⟨F1,k1,k2,k3⟩:=ok_fz hs hf hz
     exact ok_reg hc hen is l hm' he k1 k3 fun a' w' F' G' q1 q2 q3 q4=>hQ a' w' F' G' q1 (k2.trans q2) q3 q4
   | op dst gd r=>
    cases l with
    | nil=>simp [mReg] at hm
    | cons o l=>
     simp only [mReg,Bool.and_eq_true] at hm
     obtain ⟨b,d,hw,hd,rfl⟩:=evI_op hi
     unfold wpList
     exact step_op hc hen hm.1 hs hf hw hd fun a' w' F' G' k1 k2 k3 k4=>
      ok_reg hc hen is l hm.2 he k1 k3 fun a'' w'' F'' G'' q1 q2 q3 q4=>hQ a'' w'' F'' G'' q1 (k2.trans q2) q3 (q4.trans k4)
   | ck t r=>
    cases l with
    | nil=>simp [mReg] at hm
    | cons o l=>simp [mReg,mI] at hm
  ·cases he
theorem Sim.drew (hs:Sim dp F G w S) (hf:Fr dp F G w a fr):Sim dp F G w.drew S∧Ext F G w S F G w.drew S∧Fr dp F G w.drew a fr:=by
 have h:=hs.step (w':=w.drew) (fun _=>False) hs.len (fun _ _ h=>h) (fun _ _ h=>h) (fun _ _ _=>rfl) (fun _ _ h=>.inl h) (fun _ _ _=>rfl) (fun _ h=>h.elim)
  (fun id e g h1 h2=>.inr (.inl ⟨h1,h2,fun h=>h⟩)) (Nat.le_refl _) rfl rfl rfl
 exact ⟨h.1,h.2,hf.ext h.2⟩
structure Pend (P:Program) (F:Fix) (G:List Gh) (S:Store) (w0 w:World) (a:Act) (frL:List D) (z:List D) (t:Nat):Prop where
 slot:fget frL t = .top
 blk:∃ b vs T,(t<a.tmps.size→a.tmps.getD t undef = .pointer (some ⟨b,0,none⟩))∧w.heap[b]? = some (.cells vs T (0,0))∧mVL vs.toList z=true∧(∀ u∈vs.toList,u.oneCell'=true) ∧
  (∀ o,¬F b o)∧¬Owns S G b∧w0.heap.size≤b
structure Inv (P:Program) (dp:Nat→Option Fn) (F:Fix) (G:List Gh) (w0:World) (S0:Store) (ops:Array Oper) (xs:List Nat) (sto:Nat→Store) (fr0 fr':List D) (ds:List Deferred) (p f t:Nat) (z:List D)
  (fin:Bool) (L:Array Bool) (a:Act) (w:World):Prop where
 size:L.size=ops.size
 closed:∀ (j:Nat) (o:Oper) (e:Edge),L.getD j false=true→ops.toList[j]? = some o→e∈o.after.toList→Region.binds .any e=true→L.getD e.on false=true
 defers:a.defers=ds
 st:∃ k frL F1 G1,k≤xs.length∧(∀ (i x:Nat),xs[i]? = some x→i≠p→(L.getD x false=true↔i<k))∧Sim dp F1 G1 w (sto k)∧Ext F G w0 S0 F1 G1 w (sto k)∧Fr dp F1 G1 w a frL∧frL.length=fr'.length ∧
  (∀ (j:Nat) (o:Oper) (t:Nat),L.getD j false=true→¬(j=f∧k≤p)→ops.toList[j]? = some o→o.dst=some t→fget frL t=fget fr' t) ∧
  (∀ t,(∀ (j:Nat) (o:Oper),L.getD j false=true→ops.toList[j]? = some o→o.dst≠some t)→fget frL t=fget fr0 t) ∧
  (p<k→p<xs.length→L.getD f false=true)∧(L.getD f false=true→f<ops.size→k≤p→(fin=true→k<p)∧Pend P F1 G1 (sto k) w0 w a frL z t)
theorem put_getD (a:Act) (dst:Option Nat) (v:Value) (t:Nat) (h:dst≠some t):(a.put dst v).tmps.getD t undef=a.tmps.getD t undef∧(a.put dst v).tmps.size=a.tmps.size:=by
 cases dst with
 | none=>exact ⟨rfl,rfl⟩
 | some u=>
  have hne:u≠t:=fun e=>h (by rw [e])
  refine ⟨?_,by simp [Act.put]⟩
  simp only [Act.put,Array.getD_eq_getD_getElem?]
  rw [Array.getElem?_setIfInBounds_ne hne]
theorem Pend.keep {F1 F2:Fix} {G1 G2:List Gh} {S1 S2:Store} {w0 w1 w2:World} {a1:Act} {frL:List D} {z:List D} {t:Nat} (h:Pend P F1 G1 S1 w0 w1 a1 frL z t) (e:Ext F1 G1 w1 S1 F2 G2 w2 S2)
  (dst:Option Nat) (v:Value) (d:D) (hd:dst≠some t) (dst':Option Nat) (hd':dst'≠some t):Pend P F2 G2 S2 w0 w2 (a1.put dst v) (fsetO frL dst' d) z t:=by
 obtain ⟨b,vs,T,h1,h2,h3,h4,h5,h6,h7⟩:=h.blk
 have hb:=heap_lt h2
 obtain ⟨e1,e2⟩:=put_getD a1 dst v t hd
 refine ⟨(fget_fsetO _ _ _ _ hd').trans h.slot,b,vs,T,fun hl=>?_,(e.frame b hb h6).trans h2,h3,h4,fun o ho=>?_,fun ho=>?_,h7⟩
 ·rw [e1];exact h1 (by rw [←e2];exact hl)
 ·rcases e.fnew b o ho with q | q | q
  ·exact h5 o q
  ·exact h6 q
  ·omega
 ·rcases e.own b ho with q | q
  ·exact h6 q
  ·omega
theorem Pend.attach {F1:Fix} {G1:List Gh} {S1:Store} {w0 w1:World} {a1:Act} {frL:List D} {z:List D} {t:Nat} (h:Pend P F1 G1 S1 w0 w1 a1 frL z t) (hs:Sim dp F1 G1 w1 S1) (e:Ext F G w0 S F1 G1 w1 S1) (hf:Fr dp F1 G1 w1 a1 frL) :
  ∃ G2,Sim dp F1 G2 w1 (.box z::S1)∧Ext F G w0 S F1 G2 w1 (.box z::S1)∧Fr dp F1 G2 w1 a1 (fset frL t (.bx S1.length 0)):=by
 obtain ⟨b,vs,T,h1,h2,h3,h4,h5,h6,h7⟩:=h.blk
 have hG:∀ id g,sget G1 id=some g→sget (⟨b,0,0⟩::G1) id=some g:=fun id g h=>by rw [sget_cons _ _ _ (sget_lt h)];exact h
 have hmono:∀ {v:Value} {d:D},Rel dp F1 G1 w1 v d→Rel dp F1 (⟨b,0,0⟩::G1) w1 v d:=fun h=>h.mono (fun _ _ h=>h) hG (fun _ _ _=>rfl)
 have htop:sget ((⟨b,0,0⟩:Gh)::G1) S1.length=some ⟨b,0,0⟩:=by rw [←hs.len,sget_top]
 have hcase:∀ (id:Nat) (en:Ent) (g:Gh),sget (.box z::S1) id=some en→sget ((⟨b,0,0⟩:Gh)::G1) id=some g→(id=S1.length∧en = .box z∧g=⟨b,0,0⟩)∨(sget S1 id=some en∧sget G1 id=some g):=by
  intro id en g k1 k2
  by_cases hid:id=S1.length
  ·subst hid
   rw [sget_top] at k1
   rw [htop] at k2
   injection k1 with k1
   injection k2 with k2
   exact .inl ⟨rfl,k1.symm,k2.symm⟩
  ·right
   have hlt:=sget_lt k1
   simp at hlt
   rw [sget_cons _ _ _ (by omega)] at k1
   rw [sget_cons _ _ _ (by rw [hs.len];omega)] at k2
   exact ⟨k1,k2⟩
 have hcl:CellsLe dp F1 (⟨b,0,0⟩::G1) w1 vs z:=by
  have hl:=mVL_length h3
  exact ⟨by rw [←hl];simp,fun j v d hv hd=>mV1_rel (mVL_get h3 (by simpa using hv) hd)⟩
 refine ⟨⟨b,0,0⟩::G1,⟨by simp [hs.len],hs.fcell,?_,?_⟩,⟨e.fsub,fun id g h=>hG id g (e.gsub id g h),e.cells,e.frame,?_,e.fnew,e.size,e.os,e.tape,e.output⟩,⟨by rw [fset_length];exact hf.len,fun u=>?_⟩⟩
 ·intro id en g k1 k2
  rcases hcase id en g k1 k2 with ⟨_,rfl,rfl⟩ | ⟨q1,q2⟩
  ·exact ⟨vs,T,h2,⟨hcl.1,Nat.zero_le _⟩,h5,h4,hcl.2⟩
  ·by_cases hh:holds en
   ·refine (hs.ent id en g q1 q2).keep (T:=fun _=>False) hh hG (fun _ _ h=>h) (fun _ _ _=>rfl) (fun _ _ h=>.inl h) rfl (fun h=>h)
   ·exact EntOk.free hh
 ·intro i j en en' g g' hij k1 k2 hh hh' q1 q2
  rcases hcase i en g k1 q1 with ⟨e1,_,e3⟩ | ⟨a1',a2⟩
  ·rcases hcase j en' g' k2 q2 with ⟨e1',_,_⟩ | ⟨b1,b2⟩
   ·exact absurd (e1.trans e1'.symm) hij
   ·subst e3
    exact fun heq=>h6 ⟨j,en',g',b1,hh',b2,heq.symm⟩
  ·rcases hcase j en' g' k2 q2 with ⟨_,_,e3⟩ | ⟨b1,b2⟩
   ·subst e3
    exact fun heq=>h6 ⟨i,en,g,a1',hh,a2,heq⟩
   ·exact hs.sep i j en en' g g' hij a1' b1 hh hh' a2 b2
 ·rintro c ⟨id,en,g,k1,k2,k3,rfl⟩
  rcases hcase id en g k1 k3 with ⟨_,_,rfl⟩ | ⟨q1,q2⟩
  ·exact .inr h7
  ·exact e.own _ ⟨id,en,g,q1,k2,q2,rfl⟩
 ·rw [fget_fset]
  split
  ·rename_i hu
   obtain ⟨rfl,hu⟩:=hu
   rw [h1 (by rw [←hf.len];exact hu)]
   exact .bx S1.length 0 ⟨b,0,0⟩ htop
  ·exact hmono (hf.rel u)
theorem Inv.settle {w0:World} {S0:Store} {ops:Array Oper} {xs:List Nat} {sto:Nat→Store} {fr0:List D} {ds:List Deferred} {p f t:Nat} {z:List D} {L:Array Bool} {a1:Act} {w1:World} {o:Oper}
  (h:Inv P dp F G w0 S0 ops xs sto fr0 fr' ds p f t z false L a1 w1) (hp:xs[p]? = some f) (ho:ops.toList[f]? = some o) (hot:o.dst=some t) (hst:sto (p+1) = .box z::sto p) (hfr:fget fr' t=if t<fr'.length then .bx (sto p).length 0 else .top)
  (honly:∀ (j:Nat) (o:Oper),ops.toList[j]? = some o→o.dst=some t→j=f):Inv P dp F G w0 S0 ops xs sto fr0 fr' ds p f t z true L a1 w1:=by
 obtain ⟨h1,h2,h3,k,frL,F1,G1,hk,hxk,k1,k2,k3,k4,k5,k6,k7,k8⟩:=h
 have hpl:=(List.getElem?_eq_some_iff.1 hp).1
 have hfs:f<ops.size:=by simpa using (List.getElem?_eq_some_iff.1 ho).1
 by_cases hc:L.getD f false=true∧k=p
 ·obtain ⟨hL,rfl⟩:=hc
  obtain ⟨_,hpd⟩:=k8 hL hfs (Nat.le_refl _)
  obtain ⟨G2,q1,q2,q3⟩:=hpd.attach k1 k2 k3
  refine ⟨h1,h2,h3,k+1,fset frL t (.bx (sto k).length 0),F1,G2,hpl,fun i x hx hi=>?_,by rw [hst];exact q1,by rw [hst];exact q2,q3,by rw [fset_length];exact k4,?_,?_,fun _ _=>hL,fun _ _ h=>by omega⟩
  ·rw [hxk i x hx hi];omega
  ·intro j oj u hj _ hoj hu
   by_cases hut:u=t
   ·subst hut
    rw [fget_fset,hfr,k4]
    by_cases hl:u<fr'.length
    ·rw [if_pos ⟨rfl,hl⟩,if_pos hl]
    ·rw [if_neg (fun h=>hl h.2),if_neg hl,fget_ge _ _ (by rw [k4];omega)]
   ·rw [fget_fset,if_neg (fun h=>hut h.1)]
    refine k5 j oj u hj (fun hh=>?_) hoj hu
    obtain ⟨rfl,_⟩:=hh
    rw [ho] at hoj
    injection hoj with hoj
    subst hoj
    rw [hot] at hu
    injection hu with hu
    exact hut hu.symm
  ·intro u hu
   have hut:u≠t:=fun e=>hu f o hL ho (by rw [e];exact hot)
   rw [fget_fset,if_neg (fun h=>hut h.1)]
   exact k6 u hu
 ·refine ⟨h1,h2,h3,k,frL,F1,G1,hk,hxk,k1,k2,k3,k4,k5,k6,k7,fun a b c=>⟨fun _=>?_,(k8 a b c).2⟩⟩
  rcases Nat.lt_or_ge k p with q | q
  ·exact q
  ·exact absurd ⟨a,by omega⟩ hc
theorem Inv.full {w0:World} {S0:Store} {ops:Array Oper} {xs:List Nat} {sto:Nat→Store} {fr0:List D} {ds:List Deferred} {p f t:Nat} {z:List D} {L:Array Bool} {a1:Act} {w1:World} (hf:ops.size≤f)
  (h:Inv P dp F G w0 S0 ops xs sto fr0 fr' ds p f t z false L a1 w1):Inv P dp F G w0 S0 ops xs sto fr0 fr' ds p f t z true L a1 w1:=by
 obtain ⟨h1,h2,h3,k,frL,F1,G1,hk,hxk,k1,k2,k3,k4,k5,k6,k7,k8⟩:=h
 exact ⟨h1,h2,h3,k,frL,F1,G1,hk,hxk,k1,k2,k3,k4,k5,k6,k7,fun _ b _=>by omega⟩
theorem getD_eq_false {L:Array Bool} {j:Nat} (h:L.getD j true=false):j<L.size∧L.getD j false=false:=by
 rcases Nat.lt_or_ge j L.size with h' | h'
 ·refine ⟨h',?_⟩
  simp [h'] at h ⊢
  exact h
 ·simp [Array.getElem?_eq_none h'] at h
theorem getD_set {L:Array Bool} {i:Nat} (hi:i<L.size) (j:Nat) (b:Bool):(L.setIfInBounds i true).getD j b=if j=i then true else L.getD j b:=by
 by_cases h:j=i
 ·subst h;simp [hi]
 ·rw [if_neg h]
  simp [Array.getElem?_setIfInBounds_ne (Ne.symm h)]
structure Fl (ops:List Oper) (B xs:List Nat) (A:List (Nat × Nat × I)) (p f t:Nat) (z:List D):Prop where
 chain:∀ i x y,xs[i]? = some x→xs[i+1]? = some y→i≠p→i+1≠p→bbit B x y=true
 cross:∀ x y,0<p→xs[p-1]? = some x→xs[p+1]? = some y→bbit B x y=true
 next:∀ y,xs[p+1]? = some y→bbit B f y=true
 here:∀ x,xs[p]? = some x→x=f
 arm:(xs.length≤p∧ops.length≤f)∨(xs[p]? = some f∧(p,f,I.op (some t) none (.alloc z))∈A∧(∀ (j:Nat) (o:Oper),ops[j]? = some o→o.dst=some t→j=f)∧∀ q∈A,q.2.1=f∨t ∉ usO q.2.2∨(isX q.2.2=true∧p<q.1))
theorem fl_facts {ops:List Oper} {B xs:List Nat} {A:List (Nat × Nat × I)} (h:(match brk B 0 xs with
  | none=>true
  | some p=>chainB B (xs.eraseIdx p)&&(match flFind A p with | some (f,t)=>flOk ops B xs A p f t | none=>false))=true):∃ p f t z,(brk B 0 xs).getD xs.length=p∧Fl ops B xs A p f t z:=by
 cases hb:brk B 0 xs with
 | none=>
  have hc:=brk_none hb
  refine ⟨xs.length,ops.length,0,[],rfl,fun i x y h1 h2 _ _=>chain_get hc h1 h2,fun x y _ _ h2=>?_,fun y h2=>?_,fun x h2=>?_,.inl ⟨Nat.le_refl _,Nat.le_refl _⟩⟩
  ·rw [List.getElem?_eq_none (by omega)] at h2;cases h2
  ·rw [List.getElem?_eq_none (by omega)] at h2;cases h2
  ·rw [List.getElem?_eq_none (by omega)] at h2;cases h2
 | some p=>
  rw [hb] at h
  simp only [Bool.and_eq_true] at h
  obtain ⟨hc,h⟩:=h
  split at h
  ·rename_i f t hfl
   simp only [flOk,Bool.and_eq_true,decide_eq_true_eq,beq_iff_eq] at h
   obtain ⟨⟨⟨⟨⟨h1,h2⟩,h3⟩,h4⟩,h5⟩,h6⟩:=h
   have hpf:xs[p]? = some f:=by rw [List.getElem?_eq_getElem h1];rw [List.getD_eq_getElem?_getD,List.getElem?_eq_getElem h1] at h2;simpa using h2
   obtain ⟨⟨k,j,i⟩,hq,h7⟩:=List.any_eq_true.1 h4
   simp only [Bool.and_eq_true,beq_iff_eq] at h7
   obtain ⟨⟨rfl,rfl⟩,h8⟩:=h7
   obtain ⟨z,rfl⟩:∃ z,i=I.op (some t) none (.alloc z):=by
    unfold flT at h8
    split at h8
    ·rename_i u z
     injection h8 with h8
     subst h8
     exact ⟨z,rfl⟩
    ·cases h8
   refine ⟨k,j,t,z,rfl,fun i x y h1 h2 n1 n2=>?_,fun x y h0 h1 h2=>?_,fun y hy=>?_,fun x hx=>?_,.inr ⟨hpf,hq,fun q o ho hd=>?_,fun q hq=>?_⟩⟩
   ·rcases Nat.lt_or_ge i k with q | q
    ·have e1:(xs.eraseIdx k)[i]? = some x:=by rw [List.getElem?_eraseIdx_of_lt q];exact h1
     have e2:(xs.eraseIdx k)[i+1]? = some y:=by rw [List.getElem?_eraseIdx_of_lt (by omega)];exact h2
     exact chain_get hc e1 e2
    ·obtain ⟨m,rfl⟩:∃ m,i=m+1:=⟨i-1,by omega⟩
     have e1:(xs.eraseIdx k)[m]? = some x:=by rw [List.getElem?_eraseIdx_of_ge (by omega)];exact h1
     have e2:(xs.eraseIdx k)[m+1]? = some y:=by rw [List.getElem?_eraseIdx_of_ge (by omega)];exact h2
     exact chain_get hc e1 e2
   ·obtain ⟨m,rfl⟩:∃ m,k=m+1:=⟨k-1,by omega⟩
    have e1:(xs.eraseIdx (m+1))[m]? = some x:=by rw [List.getElem?_eraseIdx_of_lt (by omega)];exact h1
    have e2:(xs.eraseIdx (m+1))[m+1]? = some y:=by rw [List.getElem?_eraseIdx_of_ge (by omega)];exact h2
    exact chain_get hc e1 e2
   ·rw [hy] at h3;exact h3
   ·rw [hpf] at hx;injection hx with hx;exact hx.symm
   ·have hz:(o,q)∈ops.zipIdx:=by
     rw [List.mem_iff_getElem?]
     refine ⟨q,?_⟩
     simp [List.getElem?_zipIdx,ho]
    have:=List.all_eq_true.1 h5 (o,q) hz
    simp [hd] at this
    exact this
   ·have:=List.all_eq_true.1 h6 q hq
    simp only [Bool.or_eq_true,beq_iff_eq,Bool.not_eq_true',Bool.and_eq_true,decide_eq_true_eq] at this
    rcases this with (h | h) | h
    ·exact .inl h
    ·exact .inr (.inl fun hm=>by rw [List.contains_iff_mem.2 hm] at h;cases h)
    ·exact .inr (.inr h)
  ·cases h
theorem wp_dreg {id:Nat} {ops:Array Oper} {is:List (Nat × I)} {Q:Exit→Act→World→Prop} (hfol:P.follows .mixedOrders=true) (hc:CallOk P dp cf) (hen:Enter P dp) (hm:mDr P dp ops.toList is=true)
  (he:evIs cf fr S (snds is)=some (fr',S')) (hs:Sim dp F G w S) (hf:Fr dp F G w a fr)
  (hQ:∀ a' w' F' G',Sim dp F' G' w' S'→Ext F G w S F' G' w' S'→Fr dp F' G' w' a' fr'→a'.defers=a.defers→Q .normal a' w'):(Code.region id ops true).wp P Q a w:=by
 simp only [mDr,Bool.and_eq_true,List.all_eq_true] at hm
 obtain ⟨⟨⟨⟨⟨⟨hitems,hsep⟩,huses⟩,hedges⟩,hnd⟩,hchain⟩,hcov⟩:=hm
 have hasop:∀ q∈is,asOp q.2≠none∧ckOk q.2=true:=by
  intro q hq
  obtain ⟨h1,h2⟩:=hitems q hq
  refine ⟨fun hn=>?_,h2⟩
  unfold itemOk at h1
  split at h1
  ·rw [hn] at h1;cases h1
  ·cases h1
 obtain ⟨hlen,hunt,sto,e0,em,hhold⟩:=trace is he hsep hasop
 obtain ⟨p,f,t,z,hpbrk,hfl⟩:=fl_facts hchain
 rw [hpbrk] at hcov
 have item:∀ k j i,(k,j,i)∈ann 0 is→itemOk P dp ops.toList j i=true∧∃ pre post frp,useOk ops.toList (befores ops.toList []) pre j i post=true∧is=pre++(j,i)::post ∧
   (∀ u,noDst u pre=true→fget frp u=fget fr u)∧(∀ u,noDst u ((j,i)::post)=true→fget frp u=fget fr' u)∧Hold cf frp fr' (sto k) (sto (k+if isX i then 1 else 0)) i:=by
  intro k j i h
  obtain ⟨pre,post,h1,h2⟩:=mem_ann h
  rw [Nat.zero_add] at h2
  subst h2
  obtain ⟨frp,a1,a2,a3,a4⟩:=hhold pre j i post h1
  have:=usesOk_get huses pre j i post h1
  exact ⟨(hitems (j,i) (by rw [h1];simp)).1,pre,post,frp,by simpa using this,h1,a2,a3,a4⟩
 have nowhere:∀ u,(∀ (q:Nat) (oq:Oper),ops.toList[q]? = some oq→oq.dst≠some u)→∀ q∈is,dstI q.2≠some u:=by
  intro u hno q hq hd
  have h1:=(hitems q hq).1
  unfold itemOk at h1
  split at h1
  ·rename_i o ho
   split at h1
   ·rename_i dst gd r hop
    simp only [mI,Bool.and_eq_true] at h1
    have hd2:=h1.1.1
    cases hq2:q.2 with
    | op dst' gd' r'=>
     rw [hq2] at hop hd
     simp only [asOp,Option.some.injEq,Prod.mk.injEq] at hop
     simp only [dstI] at hd
     rw [←hop.1,hd] at hd2
     unfold mDst at hd2
     split at hd2
     ·rename_i e;cases e
     ·rename_i u v e1 e2
      injection e2 with e2
      subst e2
      simp only [beq_iff_eq] at hd2
      subst hd2
      exact hno _ o ho e1
     ·cases hd2
    | fz u=>rw [hq2] at hop;simp [asOp] at hop
    | ck u r'=>rw [hq2] at hd;simp [dstI] at hd
   ·cases h1
  ·cases h1
 obtain ⟨hs1,hx1,hf1⟩:=hs.drew hf
 have hedge:∀ (j:Nat) (o:Oper) (e:Edge),ops.toList[j]? = some o→e∈o.after.toList→Region.binds .any e=true→e.on<j:=by
  intro j o e ho hE hb
  have h1:=(List.all_eq_true.1 hedges) (o,j) (by
   rw [List.mem_iff_getElem?]
   refine ⟨j,?_⟩
   simp [List.getElem?_zipIdx] at ho ⊢
   exact ho)
  have h2:=List.all_eq_true.1 h1 e hE
  simpa [hb] using h2
 have settle:∀ (L:Array Bool) (a1:Act) (w1:World),Inv P dp F G w S ops (xsOf is) sto fr fr' a.defers p f t z false L a1 w1→Inv P dp F G w S ops (xsOf is) sto fr fr' a.defers p f t z true L a1 w1:=by
  intro L a1 w1 hI
  rcases hfl.arm with ⟨_,h⟩ | ⟨hp,hA,honly,_⟩
  ·exact hI.full (by simpa using h)
  ·obtain ⟨hio,pre,post,frp,huse,hisp,hpre,hpost,hh⟩:=item p f _ hA
   unfold itemOk at hio
   split at hio
   ·rename_i o ho
    simp only [asOp,mI,Bool.and_eq_true] at hio
    have hdst:o.dst=some t:=by
     have h1:=hio.1.1
     unfold mDst at h1
     split at h1
     ·rename_i e;cases e
     ·rename_i u v e1 e2;injection e2 with e2;subst e2;simp only [beq_iff_eq] at h1;subst h1;exact e1
     ·cases h1
    obtain ⟨b,h1,h2,_⟩:=hh (some t) none (.alloc z) rfl
    simp only [DE.wanted,Option.some.injEq] at h1
    obtain ⟨d,h4,h5⟩:=h2 h1.symm
    simp only [evR,Option.some.injEq,Prod.mk.injEq,isX,kdR,if_true] at h4
    obtain ⟨rfl,h4⟩:=h4
    exact hI.settle hp ho hdst h4.symm (h5 t rfl) honly
   ·cases hio
 have main:∀ (fuel:Nat) (L:Array Bool) (a1:Act) (w1:World),(List.range ops.size).countP (fun j=>!L.getD j true)≤fuel→Inv P dp F G w S ops (xsOf is) sto fr fr' a.defers p f t z true L a1 w1→wpAny P .any ops Q fuel L a1 w1:=by
  have done:∀ (L:Array Bool) (a1:Act) (w1:World),Inv P dp F G w S ops (xsOf is) sto fr fr' a.defers p f t z true L a1 w1→Region.ready .any ops L=[]→Q .normal a1 w1:=by
   intro L a1 w1 hI hr
   have all:∀ n j,j≤n→j<ops.size→L.getD j false=true:=by
    intro n
    induction n with
    | zero=>
     intro j hj hlt
     have hj0:j=0:=by omega
     subst hj0
     rcases Bool.eq_false_or_eq_true (L.getD 0 true) with h | h
     ·have:0<L.size:=by rw [hI.size];exact hlt
      simp [this] at h ⊢;exact h
     ·exfalso
      have:0∈Region.ready .any ops L:=mem_ready.2 ⟨h,ops[0],Array.getElem?_eq_getElem hlt,fun e he hb=>by
       have:=hedge 0 ops[0] e (by simp [hlt]) (by simpa using he) hb
       omega⟩
      rw [hr] at this
      cases this
    | succ n ih=>
     intro j hj hlt
     rcases Bool.eq_false_or_eq_true (L.getD j true) with h | h
     ·have:j<L.size:=by rw [hI.size];exact hlt
      simp [this] at h ⊢;exact h
     ·exfalso
      have:j∈Region.ready .any ops L:=mem_ready.2 ⟨h,ops[j],Array.getElem?_eq_getElem hlt,fun e he hb=>by
       have:=hedge j ops[j] e (by simp [hlt]) (by simpa using he) hb
       exact ih e.on (by omega) (by omega)⟩
      rw [hr] at this
      cases this
   obtain ⟨k,frL,F1,G1,hk,hxk,k1,k2,k3,k4,k5,k6,k7,k8⟩:=hI.st
   have hkm:k=(xsOf is).length:=by
    rcases Nat.lt_or_ge k (xsOf is).length with h | h
    ·exfalso
     have hget:=List.getElem?_eq_getElem h
     have hlt:(xsOf is)[k]<ops.size:=by
      have hmem:∀ (l:List (Nat × I)) (x:Nat),x∈xsOf l→∃ i,(x,i)∈l:=by
       intro l
       induction l with
       | nil=>intro x h;simp [xsOf] at h
       | cons q l ih=>
        intro x h
        simp only [xsOf] at h
        split at h
        ·rcases List.mem_cons.1 h with h | h
         ·exact ⟨q.2,by rw [h];simp⟩
         ·obtain ⟨i,hi⟩:=ih x h
          exact ⟨i,by simp [hi]⟩
        ·obtain ⟨i,hi⟩:=ih x h
         exact ⟨i,by simp [hi]⟩
      obtain ⟨i,hi⟩:=hmem is _ (List.getElem_mem h)
      have h1:=(hitems _ hi).1
      unfold itemOk at h1
      split at h1
      ·rename_i o ho
       have:=(List.getElem?_eq_some_iff.1 ho).1
       simpa using this
      ·cases h1
     by_cases hkp:k=p
     ·subst hkp
      have hf':=hfl.here _ hget
      rw [hf'] at hlt
      have:=(k8 (all _ _ (Nat.le_refl _) hlt) hlt (Nat.le_refl _)).1 rfl
      omega
     ·have:=(hxk k _ hget hkp).1 (all _ _ (Nat.le_refl _) hlt)
      omega
    ·omega
   have hnf:∀ (j:Nat) (o:Oper),ops.toList[j]? = some o→¬(j=f∧k≤p):=by
    rintro j o ho ⟨rfl,hkp⟩
    rcases hfl.arm with ⟨_,h⟩ | ⟨hp,_⟩
    ·have:=(List.getElem?_eq_some_iff.1 ho).1;omega
    ·have:=(List.getElem?_eq_some_iff.1 hp).1;omega
   rw [hkm,xs_len,em] at k1 k2
   refine hQ a1 w1 F1 G1 k1 k2 ⟨by rw [←k4];exact k3.len,fun t=>?_⟩ hI.defers
   have hfin:fget frL t=fget fr' t:=by
    by_cases hex:∃ (j:Nat) (o:Oper),L.getD j false=true∧ops.toList[j]? = some o∧o.dst=some t
    ·obtain ⟨j,o,h1,h2,h3⟩:=hex
     exact k5 j o t h1 (hnf j o h2) h2 h3
    ·have hno:∀ (j:Nat) (o:Oper),ops.toList[j]? = some o→o.dst≠some t:=by
      intro j o h2 h3
      have hlt:j<ops.size:=by simpa using (List.getElem?_eq_some_iff.1 h2).1
      exact hex ⟨j,o,all _ _ (Nat.le_refl _) hlt,h2,h3⟩
     rw [k6 t fun j o _ h2=>hno j o h2]
     exact (hunt t (nowhere t hno)).symm
   rw [←hfin]
   exact k3.rel t
  intro fuel
  induction fuel with
  | zero=>
   intro L a1 w1 hcnt hI
   have hr:Region.ready .any ops L=[]:=by
    rw [List.eq_nil_iff_forall_not_mem]
    intro j hj
    obtain ⟨h1,o,ho,_⟩:=mem_ready.1 hj
    have hlt:j<ops.size:=(Array.getElem?_eq_some_iff.1 ho).1
    have:0<(List.range ops.size).countP (fun j=>!L.getD j true):=List.countP_pos_iff.2 ⟨j,List.mem_range.2 hlt,by rw [h1];rfl⟩
    omega
   exact ⟨hr,done L a1 w1 hI hr⟩
  | succ fuel ih=>
   intro L a1 w1 hcnt hI
   refine ⟨done L a1 w1 hI,fun j hj=>?_⟩
   obtain ⟨hjun,oj,hoj,hjed⟩:=mem_ready.1 hj
   obtain ⟨hjL,hjf⟩:=getD_eq_false hjun
   have hlt:j<ops.size:=(Array.getElem?_eq_some_iff.1 hoj).1
   have hoj':ops.toList[j]? = some oj:=by simpa using hoj
   have hbef:∀ q,bbit (befores ops.toList []) q j=true→L.getD q false=true:=fun q hq=>
    (bbit_bef hq).closed (L:=fun q=>L.getD q false=true) hI.closed fun o e h1 h2 h3=>by
     rw [hoj'] at h1;injection h1 with h1;subst h1
     exact hjed e (by simpa using h2) h3
   have hcnt':(List.range ops.size).countP (fun q=>!(L.setIfInBounds j true).getD q true)≤fuel:=by
    have:=count_lt (l:=List.range ops.size) (x:=j) (p:=fun q=>!L.getD q true) (p':=fun q=>!(L.setIfInBounds j true).getD q true) (fun y _ hy=>by
     simp only [getD_set hjL] at hy
     split at hy
     ·cases hy
     ·exact hy) (List.mem_range.2 hlt) (by simp only [hjun];rfl) (by simp [getD_set hjL])
    omega
   obtain ⟨k,frL,F1,G1,hk,hxk,k1,k2,k3,k4,k5,k6,k7,k8⟩:=hI.st
   by_cases hjff:j=f
   ·
    subst hjff
    rcases hfl.arm with ⟨_,h⟩ | ⟨hp,hA,honly,_⟩
    ·have:ops.toList.length=ops.size:=by simp
     omega
    ·have hpl:=(List.getElem?_eq_some_iff.1 hp).1
     have hkp:k≤p:=by
      rcases Nat.lt_or_ge p k with q | q
      ·have:=k7 q hpl
       rw [hjf] at this;cases this
      ·exact q
     obtain ⟨hio,_⟩:=item p j _ hA
     unfold itemOk at hio
     rw [hoj'] at hio
     simp only [asOp,mI,Bool.and_eq_true] at hio
     obtain ⟨⟨hd1,hd2⟩,hd3⟩:=hio
     have hdst:oj.dst=some t:=by
      unfold mDst at hd1
      split at hd1
      ·rename_i e;cases e
      ·rename_i u v e1 e2;injection e2 with e2;subst e2;simp only [beq_iff_eq] at hd1;subst hd1;exact e1
      ·cases hd1
     have hw1:=wanted_run (b:=true) hd2 k3 rfl
     simp only [mR] at hd3
     split at hd3
     ·rename_i T ho
      have hz:=hd3
      unfold mZ at hz
      split at hz
      ·rename_i ti hti
       split at hz
       ·rename_i v hv
        simp only [Bool.and_eq_true,List.all_eq_true] at hz
        have hg:=grown_alloc w1 (.cells v.cells T (0,0))
        have hsx:Sim dp F1 G1 (w1.alloc (.cells v.cells T (0,0))) (sto k)∧Ext F1 G1 w1 (sto k) F1 G1 (w1.alloc (.cells v.cells T (0,0))) (sto k):=
         k1.step (fun _=>False) k1.len (fun _ _ h=>h) (fun _ _ h=>h) (fun b o hF=>hg.cell (k1.fix_lt hF)) (fun _ _ h=>.inl h) (fun b hb _=>by rw [hg.heap,Array.getElem?_push_lt hb,Array.getElem?_eq_getElem hb])
          (fun _ h=>h.elim) (fun id e g h1 h2=>.inr (.inl ⟨h1,h2,fun h=>h⟩)) (by rw [hg.heap];simp) hg.os hg.tape hg.output
        unfold wpOp
        rw [hoj]
        dsimp only
        rw [hw1]
        simp only [if_true]
        refine .inl ?_
        have hex:(execOp a1.eval oj).run P w1 = .ok (.value (.pointer (some ⟨w1.heap.size,0,none⟩))) (w1.alloc (.cells v.cells T (0,0))):=by
         simp only [execOp,ho,Instr.alloc,zeroValue,typeInfo,hti,hv,newVar,newRow,Sem.run_bind,run_program,Sem.run_pure,Result.andThen,run_newObj_alloc]
        simp only [Oper.wp,hex,Oper.upon]
        refine ih _ _ _ hcnt' (settle _ _ _ ?_)
        refine ⟨by simp [hI.size],fun q o e h1 h2 h3 h4=>?_,by rw [put_defers];exact hI.defers,k,fset frL t .top,F1,G1,hk,fun i x hx hi=>?_,hsx.1,k2.trans hsx.2,?_,by rw [fset_length];exact k4,?_,?_,?_,?_⟩
        ·rw [getD_set hjL] at h1 ⊢
         split
         ·rfl
         ·split at h1
          ·rename_i hqj
           subst hqj
           rw [hoj'] at h2;injection h2 with h2;subst h2
           exact hjed e (by simpa using h3) h4
          ·exact hI.closed q o e h1 h2 h3 h4
        ·rw [getD_set hjL,←hxk i x hx hi]
         have:x≠j:=ndB_ne hnd hx hp hi
         simp [this]
        ·rw [hdst]
         exact (k3.ext hsx.2).put (some t) (.top _)
        ·intro q o u h1 h2 h3 h4
         have hqj:q≠j:=fun e=>h2 ⟨e,hkp⟩
         rw [getD_set hjL,if_neg hqj] at h1
         have hut:u≠t:=fun e=>hqj (honly q o h3 (by rw [h4,e]))
         rw [fget_fset,if_neg (fun h=>hut h.1)]
         exact k5 q o u h1 (fun h=>hqj h.1) h3 h4
        ·intro u hu
         have hut:u≠t:=fun e=>hu j oj (by rw [getD_set hjL];simp) hoj' (by rw [hdst,e])
         rw [fget_fset,if_neg (fun h=>hut h.1)]
         refine k6 u fun q o h1 h2=>hu q o ?_ h2
         rw [getD_set hjL]
         split
         ·rfl
         ·exact h1
        ·intro h1 _
         omega
        ·intro _ _ _
         refine ⟨(fun h=>nomatch h),?_,w1.heap.size,v.cells,T,fun hl=>?_,hg.new,hz.1,hz.2,fun o ho=>?_,?_,k2.size⟩
         ·rw [fget_fset]
          split
          ·rfl
          ·rename_i h
           exact fget_ge _ _ (by have:¬t<frL.length:=fun q=>h ⟨rfl,q⟩;omega)
         ·rw [hdst] at hl ⊢
          simp only [Act.put,Array.size_setIfInBounds] at hl
          simp [Act.put,hl]
         ·have:=k1.fix_lt ho
          omega
         ·rintro ⟨id,e,g,h1,h2,h3,h4⟩
          have:=k1.lt h1 h3 h2
          omega
       ·cases hz
      ·cases hz
     ·cases hd3
   have hord:∀ k',k≤k'→(k'≤p∨p<k)→∀ q,¬(q=f∧k'≤p)→¬(q=f∧k≤p):=by
    intro k' h1 h2 q h3 h4
    exact h3 ⟨h4.1,by have:=h4.2;omega⟩
   have enough:∀ (k0 k':Nat) (i:I) (pre post:List (Nat × I)) (frp:List D),itemOk P dp ops.toList j i=true→useOk ops.toList (befores ops.toList []) pre j i post=true→is=pre++(j,i)::post →
     (∀ u,noDst u pre=true→fget frp u=fget fr u)→(∀ u,noDst u ((j,i)::post)=true→fget frp u=fget fr' u)→k'≤(xsOf is).length→(∀ (q x:Nat),(xsOf is)[q]? = some x→q≠p→((x=j∨L.getD x false=true)↔q<k'))→k≤k'→(k'≤p∨p<k)→(t ∉ usO i∨p<k∨ops.toList.length≤f) →
     (∀ dst gd r,asOp i=some (dst,gd,r)→∃ b d,DE.wanted frp gd=some b∧((b=true∧evR cf frp (sto k) r=some (d,sto k'))∨(b=false∧d = .tup []∧sto k'=sto k)) ∧
      ∀ t,dst=some t→fget fr' t=if t<fr'.length then d else .top) →
     wpOp P ops Q j (wpAny P .any ops Q fuel (L.setIfInBounds j true)) a1 w1:=by
    intro k0 k' i pre post frp hio huse hisp hpre hpost hk' hxs hkk hpk htf hev
    unfold itemOk at hio
    rw [hoj'] at hio
    dsimp only at hio
    split at hio
    ·rename_i dst gd r hop
     have hmI:=hio
     obtain ⟨b,d,hw,hd,hfd⟩:=hev dst gd r hop
     have hagree:∀ u∈usG gd++usR r,fget frL u=fget frp u:=by
      intro u hu
      have hu':u∈usO i∨(∃ t r',i = .ck t r'):=by
       cases i with
       | op dst' gd' r'=>
        simp only [asOp,Option.some.injEq,Prod.mk.injEq] at hop
        obtain ⟨rfl,rfl,rfl⟩:=hop
        exact .inl hu
       | fz t=>simp [asOp] at hop
       | ck t r'=>
        simp only [asOp,Option.some.injEq,Prod.mk.injEq] at hop
        obtain ⟨rfl,rfl,rfl⟩:=hop
        exact .inl (by simpa [usG,usO] using hu)
      have hu'':u∈usO i:=by
       rcases hu' with h | ⟨t,r',rfl⟩
       ·exact h
       ·simp only [asOp,Option.some.injEq,Prod.mk.injEq] at hop
        obtain ⟨rfl,rfl,rfl⟩:=hop
        simpa [usG,usO] using hu
      have h1:=List.all_eq_true.1 huse u hu''
      have hzip:∀ (q:Nat) (oq:Oper),ops.toList[q]? = some oq→(oq,q)∈ops.toList.zipIdx:=by
       intro q oq h2
       rw [List.mem_iff_getElem?]
       refine ⟨q,?_⟩
       simp [List.getElem?_zipIdx] at h2 ⊢
       exact h2
      simp only [Bool.or_eq_true,Bool.and_eq_true] at h1
      rcases h1 with ⟨hno,hall⟩ | ⟨hno,hall⟩
      ·rw [hpost u hno]
       by_cases hex:∃ (q:Nat) (oq:Oper),ops.toList[q]? = some oq∧oq.dst=some u
       ·obtain ⟨q,oq,h2,h3⟩:=hex
        have h4:=List.all_eq_true.1 hall (oq,q) (hzip q oq h2)
        simp only [h3,bne_self_eq_false,Bool.false_or] at h4
        refine k5 q oq u (hbef q h4) (fun hh=>?_) h2 h3
        obtain ⟨rfl,hkp⟩:=hh
        rcases htf with h5 | h5 | h5
        ·rcases hfl.arm with ⟨_,h6⟩ | ⟨hp,hA,honly,_⟩
         ·have:=(List.getElem?_eq_some_iff.1 h2).1;omega
         ·obtain ⟨hio2,_⟩:=item p q _ hA
          unfold itemOk at hio2
          rw [h2] at hio2
          simp only [asOp,mI,Bool.and_eq_true] at hio2
          have hd1:=hio2.1.1
          rw [h3] at hd1
          simp only [mDst,beq_iff_eq] at hd1
          subst hd1
          exact h5 hu''
        ·omega
        ·have:=(List.getElem?_eq_some_iff.1 h2).1;omega
       ·have hno':∀ (q:Nat) (oq:Oper),ops.toList[q]? = some oq→oq.dst≠some u:=fun q oq h2 h3=>hex ⟨q,oq,h2,h3⟩
        rw [k6 u fun q oq _ h2=>hno' q oq h2]
        exact (hunt u (nowhere u hno')).symm
      ·rw [hpre u hno]
       refine k6 u fun q oq hq h2 h3=>?_
       have h4:=List.all_eq_true.1 hall (oq,q) (hzip q oq h2)
       simp only [h3,bne_self_eq_false,Bool.false_or] at h4
       have:=(bbit_bef h4).closed (L:=fun q=>L.getD q false=true) hI.closed fun o e a1 a2 a3=>hI.closed q o e hq a1 a2 a3
       rw [hjf] at this
       cases this
     have hw':DE.wanted frL gd=some b:=by
      rw [←hw];exact wanted_congr fun t ht=>hagree t (by simp [ht])
     have hd':(b=true∧evR cf frL (sto k) r=some (d,sto k'))∨(b=false∧d = .tup []∧sto k'=sto k):=by
      rcases hd with ⟨h1,h2⟩ | h
      ·exact .inl ⟨h1,by rw [←h2];exact evR_congr fun t ht=>hagree t (by simp [ht])⟩
      ·exact .inr h
     have hdst:oj.dst=dst:=by
      simp only [mI,Bool.and_eq_true] at hmI
      have h1:=hmI.1.1
      unfold mDst at h1
      split at h1
      ·rename_i e;rw [e]
      ·rename_i e;rw [e];simpa using h1
      ·cases h1
     unfold wpOp
     rw [hoj]
     dsimp only
     refine step_op' hc hen hmI k1 k3 hw' hd' fun v w2 F2 G2 q1 q2 q3=>ih _ _ w2 hcnt' (settle _ _ _ ?_)
     refine ⟨by simp [hI.size],fun q o e h1 h2 h3 h4=>?_,by rw [put_defers];exact hI.defers,k',fsetO frL dst d,F2,G2,hk',?_,q1,k2.trans q2,q3,by rw [fsetO_length];exact k4,?_,?_,?_,?_⟩
     ·rw [getD_set hjL] at h1 ⊢
      split
      ·rfl
      ·split at h1
       ·rename_i hqj
        subst hqj
        rw [hoj'] at h2;injection h2 with h2;subst h2
        exact hjed e (by simpa using h3) h4
       ·exact hI.closed q o e h1 h2 h3 h4
     ·intro q x hx hq
      rw [←hxs q x hx hq,getD_set hjL]
      by_cases hxj:x=j
      ·simp [hxj]
      ·simp [hxj]
     ·intro q o t h1 hqf h2 h3
      rw [getD_set hjL] at h1
      by_cases ht:dst=some t
      ·rw [hfd t ht]
       subst ht
       rw [fget_fsetO_self,k4]
      ·rw [fget_fsetO _ _ _ _ ht]
       split at h1
       ·rename_i hqj
        subst hqj
        rw [hoj'] at h2;injection h2 with h2;subst h2
        exact absurd (hdst.symm.trans h3) ht
       ·exact k5 q o t h1 (hord k' hkk hpk q hqf) h2 h3
     ·intro t ht
      have hne:dst≠some t:=by
       intro h
       exact ht j oj (by rw [getD_set hjL];simp) hoj' (hdst.trans h)
      rw [fget_fsetO _ _ _ _ hne]
      refine k6 t fun q o h1 h2=>ht q o ?_ h2
      rw [getD_set hjL]
      split
      ·rfl
      ·exact h1
     ·intro h1 h2
      rw [getD_set hjL]
      split
      ·rfl
      ·exact k7 (by omega) h2
     ·intro h1 h2 h3
      rw [getD_set hjL,if_neg (fun e=>hjff e.symm)] at h1
      obtain ⟨_,hpd⟩:=k8 h1 h2 (by omega)
      have hne:oj.dst≠some t:=by
       intro h
       rcases hfl.arm with ⟨_,h6⟩ | ⟨_,_,honly,_⟩
       ·have:ops.toList.length=ops.size:=by simp
        omega
       ·exact hjff (honly j oj hoj' h)
      exact ⟨(fun h=>nomatch h),hpd.keep q2 _ v d hne dst (by rw [←hdst];exact hne)⟩
    ·cases hio
   have hcj:=hcov j (List.mem_range.2 (by simpa using hlt))
   unfold covOk at hcj
   simp only [Bool.or_eq_true] at hcj
   have still:∀ (k0:Nat) (i:I),(k0,j,i)∈ann 0 is→isX i=false→(∀ (p x:Nat),(xsOf is)[p]? = some x→x≠j) →
     (∀ frp dst gd r d,asOp i=some (dst,gd,r)→evR cf frp (sto k0) r=some (d,sto k0)→evR cf frp (sto k) r=some (d,sto k)) →
     wpOp P ops Q j (wpAny P .any ops Q fuel (L.setIfInBounds j true)) a1 w1:=by
    intro k0 i hann hx hnx hmove
    obtain ⟨hio,pre,post,frp,huse,hisp,hpre,hpost,hhold⟩:=item k0 j i hann
    refine enough k0 k i pre post frp hio huse hisp hpre hpost hk (fun q x hpx hq=>?_) (Nat.le_refl _) (by omega) ?_ fun dst gd r hop=>?_
    ·rw [←hxk q x hpx hq]
     simp [hnx q x hpx]
    ·rcases hfl.arm with ⟨_,h6⟩ | ⟨_,_,_,hus⟩
     ·exact .inr (.inr h6)
     ·rcases hus _ hann with h6 | h6 | h6
      ·exact absurd h6 hjff
      ·exact .inl h6
      ·rw [hx] at h6;cases h6.1
    ·obtain ⟨b,h1,h2,h3⟩:=hhold dst gd r hop
     simp only [hx,Bool.false_eq_true,if_false,Nat.add_zero] at h2 h3
     cases b with
     | true=>
      obtain ⟨d,h4,h5⟩:=h2 rfl
      exact ⟨true,d,h1,.inl ⟨rfl,hmove frp dst gd r d hop h4⟩,h5⟩
     | false=>exact ⟨false,.tup [],h1,.inr ⟨rfl,rfl,rfl⟩,(h3 rfl).2⟩
   by_cases hx:∃ q:Nat,(xsOf is)[q]? = some j
   ·obtain ⟨q0,hp⟩:=hx
    have hpl:=(List.getElem?_eq_some_iff.1 hp).1
    have hqp:q0≠p:=fun e=>hjff (hfl.here _ (e ▸ hp))
    obtain ⟨i,hann,hxi⟩:=xs_ann 0 hp
    rw [Nat.zero_add] at hann
    have hkp:k=q0:=by
     have h1:¬q0<k:=fun h=>by
      have:=(hxk q0 j hp hqp).2 h
      rw [hjf] at this
      cases this
     rcases Nat.eq_zero_or_pos q0 with h0 | h0
     ·omega
     ·have hlt':q0-1<(xsOf is).length:=by omega
      have hg:=List.getElem?_eq_getElem hlt'
      by_cases hq1:q0-1=p
      ·have hnext:(xsOf is)[p+1]? = some j:=by rw [←hq1,show q0-1+1=q0 by omega];exact hp
       have hLf:=hbef _ (hfl.next j hnext)
       have hfs:f<ops.size:=by
        rcases hfl.arm with ⟨h6,_⟩ | ⟨h6,hA,_⟩
        ·omega
        ·obtain ⟨hio2,_⟩:=item p f _ hA
         unfold itemOk at hio2
         split at hio2
         ·rename_i ho2
          simpa using (List.getElem?_eq_some_iff.1 ho2).1
         ·cases hio2
       rcases Nat.lt_or_ge p k with q | q
       ·omega
       ·have hkp:=(k8 hLf hfs q).1 rfl
        exfalso
        have hlt2:p-1<(xsOf is).length:=by omega
        have hg2:=List.getElem?_eq_getElem hlt2
        have:=(hxk _ _ hg2 (by omega)).1 (hbef _ (hfl.cross _ j (by omega) hg2 hnext))
        omega
      ·have hb:=hfl.chain (q0-1) _ _ hg (by rw [show q0-1+1=q0 by omega];exact hp) hq1 (by omega)
       have:=(hxk _ _ hg hq1).1 (hbef _ hb)
       omega
    subst hkp
    obtain ⟨hio,pre,post,frp,huse,hisp,hpre,hpost,hhold'⟩:=item k j i hann
    refine enough k (k+1) i pre post frp hio huse hisp hpre hpost hpl (fun q x hq hqp'=>?_) (Nat.le_succ _) (by omega) ?_ fun dst gd r hop=>?_
    ·by_cases hqk:q=k
     ·subst hqk
      rw [hp] at hq;injection hq with hq
      simp [hq]
     ·have hne:=ndB_ne hnd hq hp hqk
      have:=hxk q x hq hqp'
      simp only [hne,false_or]
      rw [this]
      omega
    ·rcases hfl.arm with ⟨_,h6⟩ | ⟨_,_,_,hus⟩
     ·exact .inr (.inr h6)
     ·rcases hus _ hann with h6 | h6 | h6
      ·exact absurd h6 hjff
      ·exact .inl h6
      ·exact .inr (.inl h6.2)
    ·obtain ⟨b,h1,h2,h3⟩:=hhold' dst gd r hop
     simp only [hxi,if_true] at h2 h3
     cases b with
     | true=>
      obtain ⟨d,h4,h5⟩:=h2 rfl
      exact ⟨true,d,h1,.inl ⟨rfl,h4⟩,h5⟩
     | false=>exact ⟨false,.tup [],h1,.inr ⟨rfl,rfl,(h3 rfl).1⟩,(h3 rfl).2⟩
   ·have hnx:∀ (p x:Nat),(xsOf is)[p]? = some x→x≠j:=fun p x h e=>hx ⟨p,by rw [h,e]⟩
    have notX:∀ (k0:Nat) (i:I),(k0,j,i)∈ann 0 is→isX i=false:=by
     intro k0 i h
     rcases Bool.eq_false_or_eq_true (isX i) with h1 | h1
     ·obtain ⟨pre,post,h2,_⟩:=mem_ann h
      exact (hx ⟨nX pre,xs_get h2 h1⟩).elim
     ·exact h1
    rcases hcj with hcj | hcj
    ·obtain ⟨⟨k0,j',i⟩,hann,h1⟩:=List.any_eq_true.1 hcj
     simp only [Bool.and_eq_true,beq_iff_eq] at h1
     obtain ⟨rfl,h1⟩:=h1
     have hni:=notX k0 i hann
     refine still k0 i hann hni hnx fun frp dst gd r d hop hev=>?_
     cases i with
     | op dst' gd' r'=>
      simp only [asOp,Option.some.injEq,Prod.mk.injEq] at hop
      obtain ⟨rfl,rfl,rfl⟩:=hop
      simp only [Bool.or_eq_true] at h1
      rcases h1 with h1 | h1
      ·exact evR_any h1 hev (sto k)
      ·have:isX (.op dst' gd' r')=kdX r':=rfl
       rw [this,h1] at hni
       cases hni
     | fz t=>cases h1
     | ck t r'=>cases h1
    ·have h1:=List.all_eq_true.1 hcj k (List.mem_range.2 (by omega))
     simp only [Bool.or_eq_true] at h1
     rcases h1 with h1 | h1
     ·exfalso
      obtain ⟨⟨x,pp⟩,hxp,h2⟩:=List.any_eq_true.1 h1
      have hget:(xsOf is)[pp]? = some x:=by
       obtain ⟨q,hq⟩:=List.mem_iff_getElem?.1 hxp
       simp [List.getElem?_zipIdx] at hq
       obtain ⟨y,hy,e1,e2⟩:=hq
       rw [←e2,←e1]
       exact hy
      simp only [Bool.or_eq_true,Bool.and_eq_true,Bool.not_eq_true',decide_eq_false_iff_not,bne_iff_ne,ne_eq] at h2
      rcases h2 with ⟨⟨h2,h3⟩,h4⟩ | ⟨h2,h3⟩
      ·exact h3 ((hxk pp x hget (by simpa using h4)).1 (hbef x h2))
      ·have hLx:L.getD x false=true:=by
        by_cases hpp:pp=p
        ·subst hpp
         rw [hfl.here x hget]
         exact k7 (by omega) (List.getElem?_eq_some_iff.1 hget).1
        ·exact (hxk pp x hget hpp).2 (by omega)
       have:=(bbit_bef h2).closed (L:=fun q=>L.getD q false=true) hI.closed fun o e a1 a2 a3=>hI.closed x o e hLx a1 a2 a3
       rw [hjf] at this
       cases this
     ·obtain ⟨⟨k0,j',i⟩,hann,h2⟩:=List.any_eq_true.1 h1
      simp only [Bool.and_eq_true,beq_iff_eq] at h2
      obtain ⟨⟨rfl,rfl⟩,_⟩:=h2
      exact still k0 i hann (notX k0 i hann) hnx fun frp dst gd r d _ hev=>hev
 have hrep:∀ j,(Array.replicate ops.size false).getD j false=false:=by
  intro j
  by_cases h:j<ops.size <;> simp [h]
 refine wp_region_any hfol (main ops.size _ a w.drew ?_ (settle _ _ _ ?_))
 ·refine Nat.le_trans List.countP_le_length ?_
  simp
 ·refine ⟨by simp,fun j o e h=>?_,rfl,0,fr,F,G,Nat.zero_le _,fun i x _ _=>?_,by rw [e0];exact hs1,by rw [e0];exact hx1,hf1,hlen.symm,fun j o t h=>?_,fun t _=>rfl,fun h=>by omega,fun h=>?_⟩
  ·rw [hrep] at h;cases h
  ·rw [hrep];simp
  ·rw [hrep] at h;cases h
  ·rw [hrep] at h;cases h
end
end Go.Proofs.YtjniafcnjbbomaaGreatDoor.DE

namespace Go.Proofs.YtjniafcnjbbomaaGreatDoor.DE
open Go
section
variable (P:Program) (dp:Nat→Option Fn)
def dropFz:List (Nat × I)→List (Nat × I)
 | []=>[]
 | (j,i)::l=>match i with
  | .fz _=>dropFz l
  | i=>(j,i)::l
def mC:C→Code→Bool
 | .bad,_=>true
 | .skip,.skip=>true
 | .reg is _,.region _ ops false=>mReg P dp ops.toList ops.toList is
 | .dreg is _,.region _ ops true=>mDr P dp ops.toList (dropFz is)
 | .seq a b,.seq c d=>mC a c&&mC b d
 | .cond x a b,.cond y c d=>mA dp y x&&mC a c&&mC b d
 | .blk i a,.block j b=>i == j&&mC a b
 | .loop _ a,.loop b=>mC a b
 | .exit i,.exit j=>i == j
 | .ret,.ret=>true
 | _,_=>false
def mRes:List ResultVar→List Res→Bool
 | [],[]=>true
 | .tmp t::l,.t n::m=>t == n&&mRes l m
 | .cell a t::l,.cell n k g::m=>a == n&&mT P t k g&&mRes l m
 | _,_=>false
def mFn (f:Fn):Bool:=match P.funcs[f.real]? with
 | some fn=>fn.name != "runtime.NumGoroutine" && fn.ntmps == f.nt&&mRes P fn.results.toList f.res&&(match fn.body with | some c=>mC P dp f.body c | none=>false)
 | none=>false
def Good:Prop:=∀ g f,dp g=some f→mFn P dp f=true
end
section
variable {P:Program} {dp:Nat→Option Fn} {F F':Fix} {G G':List Gh} {w w':World} {S S':Store} {a:Act} {fr fr':List D} {o:Oper} {d:D} {cf:CallF}
theorem Good.enter (h:Good P dp):Enter P dp:=by
 intro g f hg
 have hm:=h g f hg
 unfold mFn at hm
 split at hm
 ·rename_i fn hfn
  simp only [Bool.and_eq_true,bne_iff_ne,ne_eq] at hm
  refine ⟨fn,hfn,by simpa using hm.1.1.1,?_⟩
  have:=hm.2
  split at this
  ·rename_i c hc;simp [hc]
  ·cases this
 ·cases hm
def toExit:Ex→Exit
 | .normal=>.normal
 | .exit id=>.exit id
 | .ret=>.ret
theorem wp_loop_n {c:Code} {Q:Exit→Act→World→Prop} (J:Nat→Act→World→Prop) (round:∀ n a w,J n a w→c.wp P (Exit.then (fun a' w'=>∃ m,m<n∧J m a' w') Q) a w) :
  ∀ (n:Nat) (a:Act) (w:World),J n a w→(Code.loop c).wp P Q a w:=by
 have key:∀ n a w,J n a w→∀ (b:Frame) (k:List Item) (cs:List Frame),∃ e a' w',Q e a' w'∧Arrives P (lone (b.at a (.code c :: .inLoop c::k)) cs w) b k cs e a' w':=by
  intro n
  induction n using Nat.strongRecOn with
  | _ n ih=>
   intro a w hI b k cs
   obtain ⟨e,a₁,w₁,hq,harr⟩:=round n a w hI b (.inLoop c::k) cs
   cases e with
   | normal=>
    obtain ⟨m,hlt,hI₁⟩:=hq
    obtain ⟨e₂,a₂,w₂,hq₂,harr₂⟩:=ih m hlt a₁ w₁ hI₁ b k cs
    exact ⟨e₂,a₂,w₂,hq₂,.of_steps (Steps.trans harr (.one step_inLoop)) harr₂⟩
   | exit id=>exact ⟨_,a₁,w₁,hq,.pass (x:=.inLoop c) rfl (fun _ _=>.inl (by simp)) harr⟩
   | goto l=>exact ⟨_,a₁,w₁,hq,.pass (x:=.inLoop c) rfl (fun _ _=>.inl (by simp)) harr⟩
   | ret=>exact ⟨_,a₁,w₁,hq,.pass (x:=.inLoop c) rfl (fun _ _=>.inl (by simp)) harr⟩
   | panic ch=>exact ⟨_,a₁,w₁,hq,.pass (x:=.inLoop c) rfl (fun _ _=>.inl (by simp)) harr⟩
   | outgrown=>exact ⟨_,a₁,w₁,hq,.pass (x:=.inLoop c) rfl (fun _ _=>.inl (by simp)) harr⟩
 intro n a w h b k cs
 obtain ⟨e,a',w',hq,harr⟩:=key n a w h b k cs
 exact ⟨e,a',w',hq,.of_steps (.one step_loop) harr⟩
theorem wp_dreg_fz {id:Nat} {ops:Array Oper} {Q:Exit→Act→World→Prop} (hfol:P.follows .mixedOrders=true) (hc:CallOk P dp cf) (hen:Enter P dp):∀ (is:List (Nat × I)) {F:Fix} {fr:List D} {S:Store},mDr P dp ops.toList (dropFz is)=true →
  evIs cf fr S (snds is)=some (fr',S')→Sim dp F G w S→Fr dp F G w a fr →
  (∀ a' w' F' G',Sim dp F' G' w' S'→Ext F G w S F' G' w' S'→Fr dp F' G' w' a' fr'→a'.defers=a.defers→Q .normal a' w')→(Code.region id ops true).wp P Q a w
 | [],F,fr,S,hm,he,hs,hf,hQ=>wp_dreg hfol hc hen hm he hs hf hQ
 | (j,.op dst gd r)::l,F,fr,S,hm,he,hs,hf,hQ=>wp_dreg hfol hc hen hm he hs hf hQ
 | (j,.ck t r)::l,F,fr,S,hm,he,hs,hf,hQ=>wp_dreg hfol hc hen hm he hs hf hQ
 | (j,.fz t)::l,F,fr,S,hm,he,hs,hf,hQ=>by
  simp only [snds,evIs,evI] at he
  cases hz:fzD (fget fr t) S with
  | none=>simp [hz] at he
  | some p=>
   simp only [hz,Option.map_some] at he
   obtain ⟨F1,k1,k2,k3⟩:=ok_fz hs hf hz
   exact wp_dreg_fz hfol hc hen l hm he k1 k3 fun a' w' F' G' q1 q2 q3 q4=>hQ a' w' F' G' q1 (k2.trans q2) q3 q4
def PrimOk (P:Program) (dp:Nat→Option Fn):Prop:=
 ∀ g f args S r S',dp g=some f→primD f args S=some (r,S')→∀ F G w vs,Sim dp F G w S→RelA dp F G w vs args →
  ∀ R:Ending→World→Prop,(∀ v w' F' G',Sim dp F' G' w' S'→Ext F G w S F' G' w' S'→Rel dp F' G' w' v r→R (.returned v) w')→Calls P f.real vs w R
theorem ok_code (hfol:P.follows .mixedOrders=true) (hc:CallOk P dp cf) (hen:Enter P dp) (n:Nat):∀ (c:C) (code:Code),mC P dp c code=true→∀ {fr S ex fr' S'},exec cf n c fr S=some (ex,fr',S') →
  ∀ ⦃F G w a Q⦄,Sim dp F G w S→Fr dp F G w a fr →
   (∀ a' w' F' G',Sim dp F' G' w' S'→Ext F G w S F' G' w' S'→Fr dp F' G' w' a' fr'→a'.defers=a.defers→Q (toExit ex) a' w')→code.wp P Q a w
 | .bad,_,_,_,_,_,_,_,he=>by cases he
 | .skip,code,hm,fr,S,ex,fr',S',he=>by
  intro F G w a Q hs hf hQ
  cases code <;> simp only [mC] at hm <;> try (cases hm;done)
  simp only [exec,Option.some.injEq,Prod.mk.injEq] at he
  obtain ⟨rfl,rfl,rfl⟩:=he
  exact _root_.Go.wp_skip (hQ a w F G hs (Ext.refl _ _ _ _) hf rfl)
 | .reg is kl,code,hm,fr,S,ex,fr',S',he=>by
  intro F G w a Q hs hf hQ
  obtain ⟨id,ops,rfl⟩:∃ id ops,code = .region id ops false:=by
   cases code
   case region id ops draw=>
    cases draw
    ·exact ⟨id,ops,rfl⟩
    ·simp [mC] at hm
   all_goals (simp [mC] at hm)
  simp only [mC] at hm
  simp only [exec] at he
  split at he
  ·rename_i fr1 S1 hev
   simp only [Option.some.injEq,Prod.mk.injEq] at he
   obtain ⟨rfl,rfl,rfl⟩:=he
   exact wp_region_list (ok_reg hc hen is _ hm hev hs hf fun a' w' F' G' k1 k2 k3 k4=>hQ a' w' F' G' k1 k2 (k3.kill kl) k4)
  ·cases he
 | .dreg is kl,code,hm,fr,S,ex,fr',S',he=>by
  intro F G w a Q hs hf hQ
  obtain ⟨id,ops,rfl⟩:∃ id ops,code = .region id ops true:=by
   cases code
   case region id ops draw=>
    cases draw
    ·simp [mC] at hm
    ·exact ⟨id,ops,rfl⟩
   all_goals (simp [mC] at hm)
  simp only [mC] at hm
  simp only [exec] at he
  split at he
  ·rename_i fr1 S1 hev
   simp only [Option.some.injEq,Prod.mk.injEq] at he
   obtain ⟨rfl,rfl,rfl⟩:=he
   exact wp_dreg_fz hfol hc hen is hm hev hs hf fun a' w' F' G' k1 k2 k3 k4=>hQ a' w' F' G' k1 k2 (k3.kill kl) k4
  ·cases he
 | .seq x y,code,hm,fr,S,ex,fr',S',he=>by
  intro F G w a Q hs hf hQ
  cases code <;> simp only [mC,Bool.and_eq_true] at hm <;> try (cases hm;done)
  rename_i x' y'
  refine wp_seq ?_
  simp only [exec] at he
  split at he
  ·rename_i fr1 S1 hev
   refine ok_code hfol hc hen n x x' hm.1 hev hs hf fun a' w' F' G' k1 k2 k3 k4=>?_
   exact ok_code hfol hc hen n y y' hm.2 he k1 k3 fun a'' w'' F'' G'' q1 q2 q3 q4=>hQ a'' w'' F'' G'' q1 (k2.trans q2) q3 (q4.trans k4)
  ·rename_i hno
   refine ok_code hfol hc hen n x x' hm.1 he hs hf fun a' w' F' G' k1 k2 k3 k4=>?_
   have:=hQ a' w' F' G' k1 k2 k3 k4
   cases ex with
   | normal=>exact (hno fr' S' he).elim
   | exit id=>exact this
   | ret=>exact this
 | .cond q x y,code,hm,fr,S,ex,fr',S',he=>by
  intro F G w a Q hs hf hQ
  cases code <;> simp only [mC,Bool.and_eq_true] at hm <;> try (cases hm;done)
  rename_i q' x' y'
  have hr:=hf.eval hm.1.1
  simp only [exec] at he
  split at he
  ·rename_i heq
   rw [heq] at hr
   generalize hv:a.eval q'=v at hr
   cases hr
   exact wp_cond_true hv (ok_code hfol hc hen n x x' hm.1.2 he hs hf hQ)
  ·rename_i heq
   rw [heq] at hr
   generalize hv:a.eval q'=v at hr
   cases hr
   exact wp_cond_false hv (ok_code hfol hc hen n y y' hm.2 he hs hf hQ)
  ·cases he
 | .blk id x,code,hm,fr,S,ex,fr',S',he=>by
  intro F G w a Q hs hf hQ
  cases code <;> simp only [mC,Bool.and_eq_true,beq_iff_eq] at hm <;> try (cases hm;done)
  rename_i id' x'
  obtain ⟨rfl,hm⟩:=hm
  refine wp_block ?_
  simp only [exec] at he
  split at he
  ·rename_i j fr1 S1 hev
   simp only [Option.some.injEq,Prod.mk.injEq] at he
   obtain ⟨rfl,rfl,rfl⟩:=he
   refine ok_code hfol hc hen n x x' hm hev hs hf fun a' w' F' G' k1 k2 k3 k4=>?_
   have:=hQ a' w' F' G' k1 k2 k3 k4
   simp only [toExit,Exit.inBlock]
   split
   ·rename_i hj
    rw [if_pos hj] at this
    exact this
   ·rename_i hj
    rw [if_neg hj] at this
    exact this
  ·rename_i hno
   refine ok_code hfol hc hen n x x' hm he hs hf fun a' w' F' G' k1 k2 k3 k4=>?_
   have:=hQ a' w' F' G' k1 k2 k3 k4
   cases ex with
   | normal=>exact this
   | exit j=>exact (hno j fr' S' he).elim
   | ret=>exact this
 | .loop kl x,code,hm,fr,S,ex,fr',S',he=>by
  intro F G w a Q hs hf hQ
  cases code <;> simp only [mC] at hm <;> try (cases hm;done)
  rename_i x'
  simp only [exec] at he
  refine wp_loop_n (fun m a1 w1=>∃ fr1 S1 F1 G1,iter (fun fr S=>exec cf n x (fkill fr kl) S) m fr1 S1=some (ex,fr',S')∧Sim dp F1 G1 w1 S1∧Ext F G w S F1 G1 w1 S1∧Fr dp F1 G1 w1 a1 fr1∧a1.defers=a.defers)
   (fun m a1 w1 hJ=>?_) n a w ⟨fr,S,F,G,he,hs,Ext.refl _ _ _ _,hf,rfl⟩
  obtain ⟨fr1,S1,F1,G1,hit,k1,k2,k3,k4⟩:=hJ
  cases m with
  | zero=>cases hit
  | succ m=>
   simp only [iter] at hit
   split at hit
   ·rename_i fr2 S2 hev
    refine ok_code hfol hc hen n x x' hm hev k1 (k3.kill kl) fun a2 w2 F2 G2 q1 q2 q3 q4=>?_
    exact ⟨m,Nat.lt_succ_self m,fr2,S2,F2,G2,hit,q1,k2.trans q2,q3,q4.trans k4⟩
   ·rename_i hno
    refine ok_code hfol hc hen n x x' hm hit k1 (k3.kill kl) fun a2 w2 F2 G2 q1 q2 q3 q4=>?_
    have:=hQ a2 w2 F2 G2 q1 (k2.trans q2) q3 (q4.trans k4)
    cases ex with
    | normal=>exact (hno fr' S' hit).elim
    | exit j=>exact this
    | ret=>exact this
 | .exit id,code,hm,fr,S,ex,fr',S',he=>by
  intro F G w a Q hs hf hQ
  cases code <;> simp only [mC,beq_iff_eq] at hm <;> try (cases hm;done)
  subst hm
  simp only [exec,Option.some.injEq,Prod.mk.injEq] at he
  obtain ⟨rfl,rfl,rfl⟩:=he
  exact _root_.Go.wp_exit (hQ a w F G hs (Ext.refl _ _ _ _) hf rfl)
 | .ret,code,hm,fr,S,ex,fr',S',he=>by
  intro F G w a Q hs hf hQ
  cases code <;> simp only [mC] at hm <;> try (cases hm;done)
  simp only [exec,Option.some.injEq,Prod.mk.injEq] at he
  obtain ⟨rfl,rfl,rfl⟩:=he
  exact _root_.Go.wp_ret (hQ a w F G hs (Ext.refl _ _ _ _) hf rfl)
theorem ld_var {t:TypeId} {k:Nat} {g:Bool} {v:Value} {id p:Nat} (hT:mT P t k g=true) (hs:Sim dp F G w S) (hr:Rel dp F G w v (.bx id p)) (he:ldD S k g (.bx id p)=some d) :
  ∃ ad u,v = .pointer (some ad)∧(loadVar t ad).run P w = .ok u w∧Rel dp F G w u d:=by
 cases hr with
 | bx _ _ gh hg=>
  simp only [ldD] at he
  split at he
  ·rename_i cs hsg
   obtain ⟨vs,T,hh,⟨hl,_⟩,_,_,hc⟩:=hs.ent id _ gh hsg hg
   have:=rd_rel (P:=P) (dp:=dp) (F:=F) (G:=G) (w:=w) (cs:=cs) (k:=k) (off:=p) (g:=g) (t:=t) (blk:=gh.blk) (base:=0) (c:=fun m=>vs.getD m undef) hT (fun m e hme=>by
    have hlt:m<vs.size:=Nat.lt_of_lt_of_le (List.getElem?_eq_some_iff.1 hme).1 hl
    have e1:vs[m]? = some (vs.getD m undef):=by simp [Array.getD,hlt]
    exact ⟨by rw [Nat.zero_add,cell_box hh,e1],hc m _ e e1 hme⟩) he
   rw [Nat.zero_add] at this
   obtain ⟨u,hu,hru⟩:=this
   exact ⟨_,u,rfl,hu,hru⟩
  ·cases he
def resF (a:Act):ResultVar→Sem Value
 | .tmp t=>pure (a.tmps.getD t undef)
 | .cell b t=>do loadVar t (←asAddr (a.tmps.getD b undef))
theorem results_eq (fn:Func) (a:Act):results fn a.tmps=(do let vs ←fn.results.mapM (resF a);pure (if h:vs.size=1 then vs[0] else .tuple vs)):=by
 unfold results
 congr 1
theorem run_results (hs:Sim dp F G w S) (hf:Fr dp F G w a fr):∀ {rs:List ResultVar} {ms:List Res} {l:List D},mRes P rs ms=true→resL fr S ms=some l →
  ∃ vs:List Value,(rs.mapM (resF a)).run P w = .ok vs w∧vs.length=l.length ∧
   ∀ (j:Nat) (v:Value) (d:D),vs[j]? = some v→l[j]? = some d→Rel dp F G w v d
 | [],[],l,_,he=>by
  simp only [resL,Option.some.injEq] at he
  subst he
  exact ⟨[],rfl,rfl,fun j v d h=>by simp at h⟩
 | [],_::_,_,hm,_=>by simp [mRes] at hm
 | .tmp t::rs,[],_,hm,_=>by simp [mRes] at hm
 | .cell b t::rs,[],_,hm,_=>by simp [mRes] at hm
 | .tmp t::rs,.cell n k g::ms,_,hm,_=>by simp [mRes] at hm
 | .cell b t::rs,.t n::ms,_,hm,_=>by simp [mRes] at hm
 | .tmp t::rs,.t n::ms,l,hm,he=>by
  simp only [mRes,Bool.and_eq_true,beq_iff_eq] at hm
  obtain ⟨rfl,hm⟩:=hm
  simp only [resL,res1] at he
  cases hr:resL fr S ms with
  | none=>simp [hr] at he
  | some m=>
   simp only [hr,Option.some.injEq] at he
   subst he
   obtain ⟨vs,h1,h2,h3⟩:=run_results hs hf hm hr
   refine ⟨a.tmps.getD t undef::vs,?_,by simp [h2],fun j v d hv hd=>?_⟩
   ·simp only [List.mapM_cons,resF,Sem.run_bind,Sem.run_pure,Result.andThen,h1]
   ·cases j with
    | zero=>simp at hv hd;subst hv hd;simpa using hf.rel t
    | succ j=>exact h3 j v d (by simpa using hv) (by simpa using hd)
 | .cell b t::rs,.cell n k g::ms,l,hm,he=>by
  simp only [mRes,Bool.and_eq_true,beq_iff_eq] at hm
  obtain ⟨⟨rfl,hT⟩,hm⟩:=hm
  simp only [resL] at he
  split at he
  ·rename_i d m hd hr
   simp only [Option.some.injEq] at he
   subst he
   obtain ⟨vs,h1,h2,h3⟩:=run_results hs hf hm hr
   simp only [res1] at hd
   split at hd
   ·rename_i id p heq
    have hrel:=hf.rel b
    rw [heq] at hrel
    obtain ⟨ad,u,q1,q2,q3⟩:=ld_var hT hs hrel hd
    refine ⟨u::vs,?_,by simp [h2],fun j v d hv hd=>?_⟩
    ·have qa:(asAddr (a.tmps.getD b undef)).run P w = .ok ad w:=by rw [q1];rfl
     simp only [List.mapM_cons,resF,Sem.run_bind,qa,Sem.run_pure,Result.andThen,q2,h1]
    ·cases j with
     | zero=>simp at hv hd;subst hv hd;exact q3
     | succ j=>exact h3 j v d (by simpa using hv) (by simpa using hd)
   ·cases hd
  ·cases he
theorem run_res {fn:Func} {f:Fn} {l:List D} (hs:Sim dp F G w S) (hf:Fr dp F G w a fr) (hm:mRes P fn.results.toList f.res=true) (he:resL fr S f.res=some l) :
  ∃ v,(results fn a.tmps).run P w = .ok v w∧Rel dp F G w v (resD l):=by
 obtain ⟨vs,h1,h2,h3⟩:=run_results hs hf hm he
 have hmap:(fn.results.mapM (resF a)).run P w = .ok vs.toArray w:=by
  rw [Array.mapM_eq_mapM_toList,Sem.run_map,h1]
  rfl
 refine ⟨if h:vs.toArray.size=1 then vs.toArray[0] else .tuple vs.toArray,?_,?_⟩
 ·rw [results_eq,Sem.run_bind,hmap]
  rfl
 ·by_cases h:vs.length=1
  ·match vs,l,h,h2 with
   | [v],[d],_,_=>
    simp [resD]
    exact h3 0 v d rfl rfl
  ·rw [dif_neg (by simpa using h)]
   have:resD l = .tup l:=by
    match l,h2 with
    | [],_=>rfl
    | [d],h2=>exact absurd h2 (by simpa using h)
    | _::_::_,_=>rfl
   rw [this]
   exact .tup _ _ (by simpa using h2) fun j v d hv hd=>h3 j v d (by simpa using hv) hd
theorem fget_append (l m:List D) (t:Nat):fget (l++m) t=if t<l.length then fget l t else fget m (t-l.length):=by
 induction l generalizing t with
 | nil=>simp
 | cons x l ih=>
  cases t with
  | zero=>simp [fget]
  | succ t=>
   simp only [List.cons_append,fget,ih,List.length_cons]
   by_cases h:t<l.length
   ·rw [if_pos h,if_pos (by omega)]
   ·rw [if_neg h,if_neg (by omega)];congr 1;omega
theorem fget_rep (n t:Nat):fget (List.replicate n D.top) t = .top:=by
 induction n generalizing t with
 | zero=>rfl
 | succ n ih=>
  cases t with
  | zero=>rfl
  | succ t=>simp only [List.replicate_succ,fget,ih]
theorem call_ok (hfol:P.follows .mixedOrders=true) (hgood:Good P dp) (hprim:PrimOk P dp):∀ n,CallOk P dp (callN dp n):=by
 have hen:=hgood.enter
 intro n
 induction n with
 | zero=>
  intro g f args S r S' _ he
  cases he
 | succ n ih=>
  intro g f args S r S' hg he F G w vs hs hv R hR
  simp only [callN,hg] at he
  split at he
  ·rename_i hnp
   have hm:=hgood g f hg
   unfold mFn at hm
   split at hm
   ·rename_i fn hfn
    simp only [Bool.and_eq_true,beq_iff_eq] at hm
    obtain ⟨⟨⟨_,hnt⟩,hres⟩,hbody⟩:=hm
    split at hbody
    ·rename_i code hcode
     refine calls_of_wp hfn hcode ?_
     have hfr:Fr dp F G w { tmps:=vs++Array.replicate (fn.ntmps-vs.size) undef,defers:=[] } (frame0 f args):=by
      refine ⟨?_,fun t=>?_⟩
      ·simp [frame0,hv.1,hnt,hnp.1]
      ·simp only [frame0,fget_append]
       by_cases ht:t<args.length
       ·rw [if_pos ht]
        have ht':t<vs.size:=by rw [hv.1];exact ht
        have e1:(vs++Array.replicate (fn.ntmps-vs.size) undef).getD t undef=vs[t]:=by
         simp [Array.getElem?_append,ht']
        rw [e1,fget_getElem args t args[t] (List.getElem?_eq_getElem ht)]
        exact hv.2 t _ _ (Array.getElem?_eq_getElem ht') (List.getElem?_eq_getElem ht)
       ·rw [if_neg ht,fget_rep]
        exact .top _
     have fin:∀ (fr':List D) (S1:Store) (l:List D),resL fr' S1 f.res=some l→r=resD l→S'=S1→∀ a' w' F' G',Sim dp F' G' w' S1→Ext F G w S F' G' w' S1→Fr dp F' G' w' a' fr'→a'.defers=[] →
       a'.defers=[]∧∃ v,(results fn a'.tmps).run P w' = .ok v w'∧R (.returned v) w':=by
      intro fr' S1 l h1 h2 h3 a' w' F' G' k1 k2 k3 k4
      subst h2 h3
      obtain ⟨v,q1,q2⟩:=run_res k1 k3 hres h1
      exact ⟨k4,v,q1,hR v w' F' G' k1 k2 q2⟩
     unfold finish at he
     split at he
     ·rename_i fr' S1 hex
      cases hl:resL fr' S1 f.res with
      | none=>simp [hl] at he
      | some l=>
       simp only [hl,Option.map_some,Option.some.injEq,Prod.mk.injEq] at he
       exact ok_code hfol ih hen n f.body code hbody hex hs hfr fun a' w' F' G' k1 k2 k3 k4=>fin fr' S1 l hl he.1.symm he.2.symm a' w' F' G' k1 k2 k3 k4
     ·rename_i fr' S1 hex
      cases hl:resL fr' S1 f.res with
      | none=>simp [hl] at he
      | some l=>
       simp only [hl,Option.map_some,Option.some.injEq,Prod.mk.injEq] at he
       exact ok_code hfol ih hen n f.body code hbody hex hs hfr fun a' w' F' G' k1 k2 k3 k4=>fin fr' S1 l hl he.1.symm he.2.symm a' w' F' G' k1 k2 k3 k4
     ·cases he
    ·cases hbody
   ·cases hm
  ·exact hprim g f args S r S' hg he F G w vs hs hv R hR
theorem call_sound (hfol:P.follows .mixedOrders=true) (hgood:Good P dp) (hprim:PrimOk P dp):CallOk P dp (call dp):=by
 intro g f args S r S' hg he
 obtain ⟨n,hn⟩:=(call_iff g args S (r,S')).1 he
 exact call_ok hfol hgood hprim n g f args S r S' hg hn
end
end Go.Proofs.YtjniafcnjbbomaaGreatDoor.DE
