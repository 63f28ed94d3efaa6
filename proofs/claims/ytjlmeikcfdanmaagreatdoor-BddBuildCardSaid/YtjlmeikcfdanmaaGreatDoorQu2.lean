/-
  SEVERAL TEXTS IN ONE (joined by tools/assemble.py of this repository): De20, De21, Dc0, Dc1, Dc2, Dp, Dm, De22, De23, De24.
-/
import Derived.Test.YtjlmeikcfdanmaaGreatDoorQu1
import Derived.Tactics
import Derived.Test.YtjlmeikcfdanmaaGreatDoorProg
import Derived.KernelRfl
import GoSem.Op.String
import Derived.Laws.BitsLemmas
set_option linter.unusedVariables false
set_option linter.unusedSimpArgs false
namespace Go.Proofs.YtjlmeikcfdanmaaGreatDoor.DE
open Go
section
variable {P:Program} {dp:Nat→Option Fn} {F F':Fix} {G G':List Gh} {w w':World} {S S':Store} {a:Act} {fr fr':List D} {o:Oper} {d:D} {cf:CallF}
theorem wanted_run {ops:Array Oper} {gd:Option (Nat × Bool)} {b:Bool} (hm:mGd ops.toList o.guard gd=true) (hf:Fr dp F G w a fr) (hw:DE.wanted fr gd=some b):Region.wanted o (yielded ops a.tmps)=b:=by
 unfold mGd at hm
 split at hm
 ·rename_i h1
  simp only [DE.wanted,Option.some.injEq] at hw
  simp [Region.wanted,h1,hw]
 ·rename_i j x t y h1
  simp only [Bool.and_eq_true,beq_iff_eq] at hm
  obtain ⟨rfl,hm⟩:=hm
  split at hm
  ·rename_i op hop
   split at hm
   ·rename_i u hu
    simp only [beq_iff_eq] at hm
    subst hm
    have hr:=hf.rel u
    have hop':ops[j]? = some op:=by simpa using hop
    simp only [Region.wanted,h1]
    simp only [DE.wanted] at hw
    cases ht:a.tmps[u]? with
    | none=>
     have hy:yielded ops a.tmps j=none:=by simp [yielded,hop',hu,ht]
     rw [hy]
     have hg:a.tmps.getD u undef=undef:=by simp [ht]
     rw [hg] at hr
     split at hw
     ·rename_i y hy'
      rw [hy'] at hr
      cases hr
     ·simp only [Option.some.injEq] at hw
      subst hw
      rfl
     ·cases hw
    | some v=>
     have hg:a.tmps.getD u undef=v:=by simp [ht]
     rw [hg] at hr
     split at hw
     ·rename_i y hy'
      rw [hy'] at hr
      cases hr
      have hy:yielded ops a.tmps j=some y:=by simp [yielded,hop',hu,ht]
      rw [hy]
      simp only [Option.some.injEq] at hw
      rw [←hw]
      simp
     ·rename_i hy'
      rw [hy'] at hr
      cases hr
      have hy:yielded ops a.tmps j=none:=by simp [yielded,hop',hu,ht]
      rw [hy]
      simp only [Option.some.injEq] at hw
      rw [←hw]
      rfl
     ·cases hw
   ·cases hm
  ·cases hm
 ·cases hm
theorem rel_undef:Rel dp F G w undef (.tup []):=.tup #[] [] rfl fun j v d h=>by simp at h
theorem put_defers (a:Act) (t:Option Nat) (v:Value):(a.put t v).defers=a.defers:=by
 cases t <;> rfl
theorem step_op {ops:Array Oper} {Q:Exit→Act→World→Prop} {K:Act→World→Prop} {dst:Option Nat} {gd:Option (Nat × Bool)} {r:R} {b:Bool} (hc:CallOk P dp cf) (hen:Enter P dp)
  (hm:mI P dp ops.toList o (.op dst gd r)=true) (hs:Sim dp F G w S) (hf:Fr dp F G w a fr) (hw:DE.wanted fr gd=some b)
  (hd:(b=true∧evR cf fr S r=some (d,S'))∨(b=false∧d = .tup []∧S'=S))
  (hK:∀ a' w' F' G',Sim dp F' G' w' S'→Ext F G w S F' G' w' S'→Fr dp F' G' w' a' (fsetO fr dst d)→a'.defers=a.defers→K a' w') :
  if Region.wanted o (yielded ops a.tmps) then o.wp P a w K Q∨(o.asks P a w∧LetsOut Q) else K (a.put o.dst undef) w:=by
 simp only [mI,Bool.and_eq_true] at hm
 obtain ⟨⟨h1,h2⟩,h3⟩:=hm
 have hdst:o.dst=dst:=by
  unfold mDst at h1
  split at h1
  ·rename_i e;rw [e]
  ·rename_i e;rw [e];simpa using h1
  ·cases h1
 rw [wanted_run h2 hf hw]
 rcases hd with ⟨rfl,he⟩ | ⟨rfl,rfl,rfl⟩
 ·simp only [if_true]
  refine .inl (ok_R hc hen h3 hs hf he K Q fun v w' F' G' k1 k2 k3=>hK _ w' F' G' k1 k2 ?_ (put_defers _ _ _))
  rw [hdst]
  exact (hf.ext k2).put dst k3
 ·simp only [Bool.false_eq_true,if_false]
  refine hK _ w F G hs (Ext.refl _ _ _ _) ?_ (put_defers _ _ _)
  rw [hdst]
  exact hf.put dst rel_undef
theorem evI_op {dst:Option Nat} {gd:Option (Nat × Bool)} {r:R} {fr1:List D} {S1:Store} (h:evI cf fr S (.op dst gd r)=some (fr1,S1)) :
  ∃ b d,DE.wanted fr gd=some b∧((b=true∧evR cf fr S r=some (d,S1))∨(b=false∧d = .tup []∧S1=S))∧fr1=fsetO fr dst d:=by
 simp only [evI] at h
 split at h
 ·rename_i hw
  cases hr:evR cf fr S r with
  | none=>simp [hr] at h
  | some p=>
   simp only [hr,Option.map_some,Option.some.injEq,Prod.mk.injEq] at h
   obtain ⟨rfl,rfl⟩:=h
   exact ⟨true,p.1,hw,.inl ⟨rfl,rfl⟩,rfl⟩
 ·rename_i hw
  simp only [Option.some.injEq,Prod.mk.injEq] at h
  obtain ⟨rfl,rfl⟩:=h
  exact ⟨false,.tup [],hw,.inr ⟨rfl,rfl,rfl⟩,rfl⟩
 ·cases h
theorem ok_reg {ops:Array Oper} {Q:Exit→Act→World→Prop} (hc:CallOk P dp cf) (hen:Enter P dp):∀ (is:List I) (l:List Oper) {fr S fr' S' F G w a},mReg P dp ops.toList l is=true→evIs cf fr S is=some (fr',S') →
  Sim dp F G w S→Fr dp F G w a fr→(∀ a' w' F' G',Sim dp F' G' w' S'→Ext F G w S F' G' w' S'→Fr dp F' G' w' a' fr'→a'.defers=a.defers→Q .normal a' w')→wpList P ops Q l a w
 | [],l,fr,S,fr',S',F,G,w,a,hm,he,hs,hf,hQ=>by
  cases l with
  | nil=>
   simp only [evIs,Option.some.injEq,Prod.mk.injEq] at he
   obtain ⟨rfl,rfl⟩:=he
   exact hQ a w F G hs (Ext.refl _ _ _ _) hf rfl
  | cons o l=>simp [mReg] at hm
 | i::is,l,fr,S,fr',S',F,G,w,a,hm,he,hs,hf,hQ=>by
  simp only [evIs] at he
  split at he
  ·rename_i fr1 S1 hi
   cases i with
   | fz t=>
    have hm':mReg P dp ops.toList l is=true:=by cases l <;> simpa [mReg] using hm
    simp only [evI] at hi
    cases hz:fzD (fget fr t) S with
    | none=>simp [hz] at hi
    | some p=>
     simp only [hz,Option.map_some,Option.some.injEq,Prod.mk.injEq] at hi
     obtain ⟨rfl,rfl⟩:=hi
     obtain ⟨F1,k1,k2,k3⟩:=ok_fz hs hf hz
     exact ok_reg hc hen is l hm' he k1 k3 fun a' w' F' G' q1 q2 q3 q4=>hQ a' w' F' G' q1 (k2.trans q2) q3 q4
   | op dst gd r=>
    cases l with
    | nil=>simp [mReg] at hm
    | cons o l=>
     simp only [mReg,Bool.and_eq_true] at hm
     obtain ⟨b,d,hw,hd,rfl⟩:=evI_op hi
     unfold wpList
     exact step_op hc hen hm.1 hs hf hw hd fun a' w' F' G' k1 k2 k3 k4=>
      ok_reg hc hen is l hm.2 he k1 k3 fun a'' w'' F'' G'' q1 q2 q3 q4=>hQ a'' w'' F'' G'' q1 (k2.trans q2) q3 (q4.trans k4)
   | ck t r=>
    cases l with
    | nil=>simp [mReg] at hm
    | cons o l=>simp [mReg,mI] at hm
  ·cases he
theorem Sim.drew (hs:Sim dp F G w S) (hf:Fr dp F G w a fr):Sim dp F G w.drew S∧Ext F G w S F G w.drew S∧Fr dp F G w.drew a fr:=by
 have h:=hs.step (w':=w.drew) (fun _=>False) hs.len (fun _ _ h=>h) (fun _ _ h=>h) (fun _ _ _=>rfl) (fun _ _ h=>.inl h) (fun _ _ _=>rfl) (fun _ h=>h.elim)
  (fun id e g h1 h2=>.inr (.inl ⟨h1,h2,fun h=>h⟩)) (Nat.le_refl _) rfl rfl rfl
 exact ⟨h.1,h.2,hf.ext h.2⟩
structure Inv (P:Program) (dp:Nat→Option Fn) (F:Fix) (G:List Gh) (w0:World) (S0:Store) (ops:Array Oper) (xs:List Nat) (sto:Nat→Store) (fr0 fr':List D) (ds:List Deferred)
  (L:Array Bool) (a:Act) (w:World):Prop where
 size:L.size=ops.size
 closed:∀ (j:Nat) (o:Oper) (e:Edge),L.getD j false=true→ops.toList[j]? = some o→e∈o.after.toList→Region.binds .any e=true→L.getD e.on false=true
 defers:a.defers=ds
 st:∃ k frL F1 G1,k≤xs.length∧(∀ (i x:Nat),xs[i]? = some x→(L.getD x false=true↔i<k))∧Sim dp F1 G1 w (sto k)∧Ext F G w0 S0 F1 G1 w (sto k)∧Fr dp F1 G1 w a frL∧frL.length=fr'.length ∧
  (∀ (j:Nat) (o:Oper) (t:Nat),L.getD j false=true→ops.toList[j]? = some o→o.dst=some t→fget frL t=fget fr' t) ∧
  (∀ t,(∀ (j:Nat) (o:Oper),L.getD j false=true→ops.toList[j]? = some o→o.dst≠some t)→fget frL t=fget fr0 t)
theorem getD_eq_false {L:Array Bool} {j:Nat} (h:L.getD j true=false):j<L.size∧L.getD j false=false:=by
 rcases Nat.lt_or_ge j L.size with h' | h'
 ·refine ⟨h',?_⟩
  simp [h'] at h ⊢
  exact h
 ·simp [Array.getElem?_eq_none h'] at h
theorem getD_set {L:Array Bool} {i:Nat} (hi:i<L.size) (j:Nat) (b:Bool):(L.setIfInBounds i true).getD j b=if j=i then true else L.getD j b:=by
 by_cases h:j=i
 ·subst h;simp [hi]
 ·rw [if_neg h]
  simp [Array.getElem?_setIfInBounds_ne (Ne.symm h)]
theorem wp_dreg {id:Nat} {ops:Array Oper} {is:List (Nat × I)} {Q:Exit→Act→World→Prop} (hfol:P.follows .mixedOrders=true) (hc:CallOk P dp cf) (hen:Enter P dp) (hm:mDr P dp ops.toList is=true)
  (he:evIs cf fr S (snds is)=some (fr',S')) (hs:Sim dp F G w S) (hf:Fr dp F G w a fr)
  (hQ:∀ a' w' F' G',Sim dp F' G' w' S'→Ext F G w S F' G' w' S'→Fr dp F' G' w' a' fr'→a'.defers=a.defers→Q .normal a' w'):(Code.region id ops true).wp P Q a w:=by
 simp only [mDr,Bool.and_eq_true,List.all_eq_true] at hm
 obtain ⟨⟨⟨⟨⟨⟨hitems,hsep⟩,huses⟩,hedges⟩,hnd⟩,hchain⟩,hcov⟩:=hm
 have hasop:∀ q∈is,asOp q.2≠none∧ckOk q.2=true:=by
  intro q hq
  obtain ⟨h1,h2⟩:=hitems q hq
  refine ⟨fun hn=>?_,h2⟩
  unfold itemOk at h1
  split at h1
  ·rw [hn] at h1;cases h1
  ·cases h1
 obtain ⟨hlen,hunt,sto,e0,em,hhold⟩:=trace is he hsep hasop
 have item:∀ k j i,(k,j,i)∈ann 0 is→itemOk P dp ops.toList j i=true∧∃ pre post frp,useOk ops.toList (befores ops.toList []) pre j i post=true∧is=pre++(j,i)::post ∧
   (∀ u,noDst u pre=true→fget frp u=fget fr u)∧(∀ u,noDst u ((j,i)::post)=true→fget frp u=fget fr' u)∧Hold cf frp fr' (sto k) (sto (k+if isX i then 1 else 0)) i:=by
  intro k j i h
  obtain ⟨pre,post,h1,h2⟩:=mem_ann h
  rw [Nat.zero_add] at h2
  subst h2
  obtain ⟨frp,a1,a2,a3,a4⟩:=hhold pre j i post h1
  have:=usesOk_get huses pre j i post h1
  exact ⟨(hitems (j,i) (by rw [h1];simp)).1,pre,post,frp,by simpa using this,h1,a2,a3,a4⟩
 have nowhere:∀ u,(∀ (q:Nat) (oq:Oper),ops.toList[q]? = some oq→oq.dst≠some u)→∀ q∈is,dstI q.2≠some u:=by
  intro u hno q hq hd
  have h1:=(hitems q hq).1
  unfold itemOk at h1
  split at h1
  ·rename_i o ho
   split at h1
   ·rename_i dst gd r hop
    simp only [mI,Bool.and_eq_true] at h1
    have hd2:=h1.1.1
    cases hq2:q.2 with
    | op dst' gd' r'=>
     rw [hq2] at hop hd
     simp only [asOp,Option.some.injEq,Prod.mk.injEq] at hop
     simp only [dstI] at hd
     rw [←hop.1,hd] at hd2
     unfold mDst at hd2
     split at hd2
     ·rename_i e;cases e
     ·rename_i u v e1 e2
      injection e2 with e2
      subst e2
      simp only [beq_iff_eq] at hd2
      subst hd2
      exact hno _ o ho e1
     ·cases hd2
    | fz u=>rw [hq2] at hop;simp [asOp] at hop
    | ck u r'=>rw [hq2] at hd;simp [dstI] at hd
   ·cases h1
  ·cases h1
 obtain ⟨hs1,hx1,hf1⟩:=hs.drew hf
 have hedge:∀ (j:Nat) (o:Oper) (e:Edge),ops.toList[j]? = some o→e∈o.after.toList→Region.binds .any e=true→e.on<j:=by
  intro j o e ho hE hb
  have h1:=(List.all_eq_true.1 hedges) (o,j) (by
   rw [List.mem_iff_getElem?]
   refine ⟨j,?_⟩
   simp [List.getElem?_zipIdx] at ho ⊢
   exact ho)
  have h2:=List.all_eq_true.1 h1 e hE
  simpa [hb] using h2
 have main:∀ (fuel:Nat) (L:Array Bool) (a1:Act) (w1:World),(List.range ops.size).countP (fun j=>!L.getD j true)≤fuel→Inv P dp F G w S ops (xsOf is) sto fr fr' a.defers L a1 w1→wpAny P .any ops Q fuel L a1 w1:=by
  have done:∀ (L:Array Bool) (a1:Act) (w1:World),Inv P dp F G w S ops (xsOf is) sto fr fr' a.defers L a1 w1→Region.ready .any ops L=[]→Q .normal a1 w1:=by
   intro L a1 w1 hI hr
   have all:∀ n j,j≤n→j<ops.size→L.getD j false=true:=by
    intro n
    induction n with
    | zero=>
     intro j hj hlt
     have hj0:j=0:=by omega
     subst hj0
     rcases Bool.eq_false_or_eq_true (L.getD 0 true) with h | h
     ·have:0<L.size:=by rw [hI.size];exact hlt
      simp [this] at h ⊢;exact h
     ·exfalso
      have:0∈Region.ready .any ops L:=mem_ready.2 ⟨h,ops[0],Array.getElem?_eq_getElem hlt,fun e he hb=>by
       have:=hedge 0 ops[0] e (by simp [hlt]) (by simpa using he) hb
       omega⟩
      rw [hr] at this
      cases this
    | succ n ih=>
     intro j hj hlt
     rcases Bool.eq_false_or_eq_true (L.getD j true) with h | h
     ·have:j<L.size:=by rw [hI.size];exact hlt
      simp [this] at h ⊢;exact h
     ·exfalso
      have:j∈Region.ready .any ops L:=mem_ready.2 ⟨h,ops[j],Array.getElem?_eq_getElem hlt,fun e he hb=>by
       have:=hedge j ops[j] e (by simp [hlt]) (by simpa using he) hb
       exact ih e.on (by omega) (by omega)⟩
      rw [hr] at this
      cases this
   obtain ⟨k,frL,F1,G1,hk,hxk,k1,k2,k3,k4,k5,k6⟩:=hI.st
   have hkm:k=(xsOf is).length:=by
    rcases Nat.lt_or_ge k (xsOf is).length with h | h
    ·exfalso
     have hget:=List.getElem?_eq_getElem h
     have hlt:(xsOf is)[k]<ops.size:=by
      have hmem:∀ (l:List (Nat × I)) (x:Nat),x∈xsOf l→∃ i,(x,i)∈l:=by
       intro l
       induction l with
       | nil=>intro x h;simp [xsOf] at h
       | cons q l ih=>
        intro x h
        simp only [xsOf] at h
        split at h
        ·rcases List.mem_cons.1 h with h | h
         ·exact ⟨q.2,by rw [h];simp⟩
         ·obtain ⟨i,hi⟩:=ih x h
          exact ⟨i,by simp [hi]⟩
        ·obtain ⟨i,hi⟩:=ih x h
         exact ⟨i,by simp [hi]⟩
      obtain ⟨i,hi⟩:=hmem is _ (List.getElem_mem h)
      have h1:=(hitems _ hi).1
      unfold itemOk at h1
      split at h1
      ·rename_i o ho
       have:=(List.getElem?_eq_some_iff.1 ho).1
       simpa using this
      ·cases h1
     have:=(hxk k _ hget).1 (all _ _ (Nat.le_refl _) hlt)
     omega
    ·omega
   rw [hkm,xs_len,em] at k1 k2
   refine hQ a1 w1 F1 G1 k1 k2 ⟨by rw [←k4];exact k3.len,fun t=>?_⟩ hI.defers
   have hfin:fget frL t=fget fr' t:=by
    by_cases hex:∃ (j:Nat) (o:Oper),L.getD j false=true∧ops.toList[j]? = some o∧o.dst=some t
    ·obtain ⟨j,o,h1,h2,h3⟩:=hex
     exact k5 j o t h1 h2 h3
    ·have hno:∀ (j:Nat) (o:Oper),ops.toList[j]? = some o→o.dst≠some t:=by
      intro j o h2 h3
      have hlt:j<ops.size:=by simpa using (List.getElem?_eq_some_iff.1 h2).1
      exact hex ⟨j,o,all _ _ (Nat.le_refl _) hlt,h2,h3⟩
     rw [k6 t fun j o _ h2=>hno j o h2]
     exact (hunt t (nowhere t hno)).symm
   rw [←hfin]
   exact k3.rel t
  intro fuel
  induction fuel with
  | zero=>
   intro L a1 w1 hcnt hI
   have hr:Region.ready .any ops L=[]:=by
    rw [List.eq_nil_iff_forall_not_mem]
    intro j hj
    obtain ⟨h1,o,ho,_⟩:=mem_ready.1 hj
    have hlt:j<ops.size:=(Array.getElem?_eq_some_iff.1 ho).1
    have:0<(List.range ops.size).countP (fun j=>!L.getD j true):=List.countP_pos_iff.2 ⟨j,List.mem_range.2 hlt,by rw [h1];rfl⟩
    omega
   exact ⟨hr,done L a1 w1 hI hr⟩
  | succ fuel ih=>
   intro L a1 w1 hcnt hI
   refine ⟨done L a1 w1 hI,fun j hj=>?_⟩
   obtain ⟨hjun,oj,hoj,hjed⟩:=mem_ready.1 hj
   obtain ⟨hjL,hjf⟩:=getD_eq_false hjun
   have hlt:j<ops.size:=(Array.getElem?_eq_some_iff.1 hoj).1
   have hoj':ops.toList[j]? = some oj:=by simpa using hoj
   have hbef:∀ q,bbit (befores ops.toList []) q j=true→L.getD q false=true:=fun q hq=>
    (bbit_bef hq).closed (L:=fun q=>L.getD q false=true) hI.closed fun o e h1 h2 h3=>by
     rw [hoj'] at h1;injection h1 with h1;subst h1
     exact hjed e (by simpa using h2) h3
   have hcnt':(List.range ops.size).countP (fun q=>!(L.setIfInBounds j true).getD q true)≤fuel:=by
    have:=count_lt (l:=List.range ops.size) (x:=j) (p:=fun q=>!L.getD q true) (p':=fun q=>!(L.setIfInBounds j true).getD q true) (fun y _ hy=>by
     simp only [getD_set hjL] at hy
     split at hy
     ·cases hy
     ·exact hy) (List.mem_range.2 hlt) (by simp only [hjun];rfl) (by simp [getD_set hjL])
    omega
   obtain ⟨k,frL,F1,G1,hk,hxk,k1,k2,k3,k4,k5,k6⟩:=hI.st
   have enough:∀ (k0 k':Nat) (i:I) (pre post:List (Nat × I)) (frp:List D),itemOk P dp ops.toList j i=true→useOk ops.toList (befores ops.toList []) pre j i post=true→is=pre++(j,i)::post →
     (∀ u,noDst u pre=true→fget frp u=fget fr u)→(∀ u,noDst u ((j,i)::post)=true→fget frp u=fget fr' u)→k'≤(xsOf is).length→(∀ (p x:Nat),(xsOf is)[p]? = some x→((x=j∨L.getD x false=true)↔p<k')) →
     (∀ dst gd r,asOp i=some (dst,gd,r)→∃ b d,DE.wanted frp gd=some b∧((b=true∧evR cf frp (sto k) r=some (d,sto k'))∨(b=false∧d = .tup []∧sto k'=sto k)) ∧
      ∀ t,dst=some t→fget fr' t=if t<fr'.length then d else .top) →
     wpOp P ops Q j (wpAny P .any ops Q fuel (L.setIfInBounds j true)) a1 w1:=by
    intro k0 k' i pre post frp hio huse hisp hpre hpost hk' hxs hev
    unfold itemOk at hio
    rw [hoj'] at hio
    dsimp only at hio
    split at hio
    ·rename_i dst gd r hop
     have hmI:=hio
     obtain ⟨b,d,hw,hd,hfd⟩:=hev dst gd r hop
     have hagree:∀ u∈usG gd++usR r,fget frL u=fget frp u:=by
      intro u hu
      have hu':u∈usO i∨(∃ t r',i = .ck t r'):=by
       cases i with
       | op dst' gd' r'=>
        simp only [asOp,Option.some.injEq,Prod.mk.injEq] at hop
        obtain ⟨rfl,rfl,rfl⟩:=hop
        exact .inl hu
       | fz t=>simp [asOp] at hop
       | ck t r'=>
        simp only [asOp,Option.some.injEq,Prod.mk.injEq] at hop
        obtain ⟨rfl,rfl,rfl⟩:=hop
        exact .inl (by simpa [usG,usO] using hu)
      have hu'':u∈usO i:=by
       rcases hu' with h | ⟨t,r',rfl⟩
       ·exact h
       ·simp only [asOp,Option.some.injEq,Prod.mk.injEq] at hop
        obtain ⟨rfl,rfl,rfl⟩:=hop
        simpa [usG,usO] using hu
      have h1:=List.all_eq_true.1 huse u hu''
      have hzip:∀ (q:Nat) (oq:Oper),ops.toList[q]? = some oq→(oq,q)∈ops.toList.zipIdx:=by
       intro q oq h2
       rw [List.mem_iff_getElem?]
       refine ⟨q,?_⟩
       simp [List.getElem?_zipIdx] at h2 ⊢
       exact h2
      simp only [Bool.or_eq_true,Bool.and_eq_true] at h1
      rcases h1 with ⟨hno,hall⟩ | ⟨hno,hall⟩
      ·rw [hpost u hno]
       by_cases hex:∃ (q:Nat) (oq:Oper),ops.toList[q]? = some oq∧oq.dst=some u
       ·obtain ⟨q,oq,h2,h3⟩:=hex
        have h4:=List.all_eq_true.1 hall (oq,q) (hzip q oq h2)
        simp only [h3,bne_self_eq_false,Bool.false_or] at h4
        exact k5 q oq u (hbef q h4) h2 h3
       ·have hno':∀ (q:Nat) (oq:Oper),ops.toList[q]? = some oq→oq.dst≠some u:=fun q oq h2 h3=>hex ⟨q,oq,h2,h3⟩
        rw [k6 u fun q oq _ h2=>hno' q oq h2]
        exact (hunt u (nowhere u hno')).symm
      ·rw [hpre u hno]
       refine k6 u fun q oq hq h2 h3=>?_
       have h4:=List.all_eq_true.1 hall (oq,q) (hzip q oq h2)
       simp only [h3,bne_self_eq_false,Bool.false_or] at h4
       have:=(bbit_bef h4).closed (L:=fun q=>L.getD q false=true) hI.closed fun o e a1 a2 a3=>hI.closed q o e hq a1 a2 a3
       rw [hjf] at this
       cases this
     have hw':DE.wanted frL gd=some b:=by
      rw [←hw];exact wanted_congr fun t ht=>hagree t (by simp [ht])
     have hd':(b=true∧evR cf frL (sto k) r=some (d,sto k'))∨(b=false∧d = .tup []∧sto k'=sto k):=by
      rcases hd with ⟨h1,h2⟩ | h
      ·exact .inl ⟨h1,by rw [←h2];exact evR_congr fun t ht=>hagree t (by simp [ht])⟩
      ·exact .inr h
     have hdst:oj.dst=dst:=by
      simp only [mI,Bool.and_eq_true] at hmI
      have h1:=hmI.1.1
      unfold mDst at h1
      split at h1
      ·rename_i e;rw [e]
      ·rename_i e;rw [e];simpa using h1
      ·cases h1
     unfold wpOp
     rw [hoj]
     dsimp only
     refine step_op hc hen hmI k1 k3 hw' hd' fun a2 w2 F2 G2 q1 q2 q3 q4=>ih _ a2 w2 hcnt' ?_
     refine ⟨by simp [hI.size],fun q o e h1 h2 h3 h4=>?_,by rw [q4];exact hI.defers,k',fsetO frL dst d,F2,G2,hk',?_,q1,k2.trans q2,q3,by rw [fsetO_length];exact k4,?_,?_⟩
     ·rw [getD_set hjL] at h1 ⊢
      split
      ·rfl
      ·split at h1
       ·rename_i hqj
        subst hqj
        rw [hoj'] at h2;injection h2 with h2;subst h2
        exact hjed e (by simpa using h3) h4
       ·exact hI.closed q o e h1 h2 h3 h4
     ·intro p x hx
      rw [←hxs p x hx,getD_set hjL]
      by_cases hxj:x=j
      ·simp [hxj]
      ·simp [hxj]
     ·intro q o t h1 h2 h3
      rw [getD_set hjL] at h1
      by_cases ht:dst=some t
      ·rw [hfd t ht]
       subst ht
       rw [fget_fsetO_self,k4]
      ·rw [fget_fsetO _ _ _ _ ht]
       split at h1
       ·rename_i hqj
        subst hqj
        rw [hoj'] at h2;injection h2 with h2;subst h2
        exact absurd (hdst.symm.trans h3) ht
       ·exact k5 q o t h1 h2 h3
     ·intro t ht
      have hne:dst≠some t:=by
       intro h
       exact ht j oj (by rw [getD_set hjL];simp) hoj' (hdst.trans h)
      rw [fget_fsetO _ _ _ _ hne]
      refine k6 t fun q o h1 h2=>ht q o ?_ h2
      rw [getD_set hjL]
      split
      ·rfl
      ·exact h1
    ·cases hio
   have hcj:=hcov j (List.mem_range.2 (by simpa using hlt))
   unfold covOk at hcj
   simp only [Bool.or_eq_true] at hcj
   have still:∀ (k0:Nat) (i:I),(k0,j,i)∈ann 0 is→isX i=false→(∀ (p x:Nat),(xsOf is)[p]? = some x→x≠j) →
     (∀ frp dst gd r d,asOp i=some (dst,gd,r)→evR cf frp (sto k0) r=some (d,sto k0)→evR cf frp (sto k) r=some (d,sto k)) →
     wpOp P ops Q j (wpAny P .any ops Q fuel (L.setIfInBounds j true)) a1 w1:=by
    intro k0 i hann hx hnx hmove
    obtain ⟨hio,pre,post,frp,huse,hisp,hpre,hpost,hhold⟩:=item k0 j i hann
    refine enough k0 k i pre post frp hio huse hisp hpre hpost hk (fun p x hpx=>?_) fun dst gd r hop=>?_
    ·rw [←hxk p x hpx]
     simp [hnx p x hpx]
    ·obtain ⟨b,h1,h2,h3⟩:=hhold dst gd r hop
     simp only [hx,Bool.false_eq_true,if_false,Nat.add_zero] at h2 h3
     cases b with
     | true=>
      obtain ⟨d,h4,h5⟩:=h2 rfl
      exact ⟨true,d,h1,.inl ⟨rfl,hmove frp dst gd r d hop h4⟩,h5⟩
     | false=>exact ⟨false,.tup [],h1,.inr ⟨rfl,rfl,rfl⟩,(h3 rfl).2⟩
   by_cases hx:∃ p:Nat,(xsOf is)[p]? = some j
   ·obtain ⟨p,hp⟩:=hx
    have hpl:=(List.getElem?_eq_some_iff.1 hp).1
    obtain ⟨i,hann,hxi⟩:=xs_ann 0 hp
    rw [Nat.zero_add] at hann
    have hkp:k=p:=by
     have h1:¬p<k:=fun h=>by
      have:=(hxk p j hp).2 h
      rw [hjf] at this
      cases this
     rcases Nat.eq_zero_or_pos p with h0 | h0
     ·omega
     ·have hlt':p-1<(xsOf is).length:=by omega
      have hg:=List.getElem?_eq_getElem hlt'
      have hb:=chain_get (i:=p-1) hchain hg (by rw [show p-1+1=p by omega];exact hp)
      have:=(hxk _ _ hg).1 (hbef _ hb)
      omega
    subst hkp
    obtain ⟨hio,pre,post,frp,huse,hisp,hpre,hpost,hhold'⟩:=item k j i hann
    refine enough k (k+1) i pre post frp hio huse hisp hpre hpost hpl (fun q x hq=>?_) fun dst gd r hop=>?_
    ·by_cases hqk:q=k
     ·subst hqk
      rw [hp] at hq;injection hq with hq
      simp [hq]
     ·have hne:=ndB_ne hnd hq hp hqk
      have:=hxk q x hq
      simp only [hne,false_or]
      rw [this]
      omega
    ·obtain ⟨b,h1,h2,h3⟩:=hhold' dst gd r hop
     simp only [hxi,if_true] at h2 h3
     cases b with
     | true=>
      obtain ⟨d,h4,h5⟩:=h2 rfl
      exact ⟨true,d,h1,.inl ⟨rfl,h4⟩,h5⟩
     | false=>exact ⟨false,.tup [],h1,.inr ⟨rfl,rfl,(h3 rfl).1⟩,(h3 rfl).2⟩
   ·have hnx:∀ (p x:Nat),(xsOf is)[p]? = some x→x≠j:=fun p x h e=>hx ⟨p,by rw [h,e]⟩
    have notX:∀ (k0:Nat) (i:I),(k0,j,i)∈ann 0 is→isX i=false:=by
     intro k0 i h
     rcases Bool.eq_false_or_eq_true (isX i) with h1 | h1
     ·obtain ⟨pre,post,h2,_⟩:=mem_ann h
      exact (hx ⟨nX pre,xs_get h2 h1⟩).elim
     ·exact h1
    rcases hcj with hcj | hcj
    ·obtain ⟨⟨k0,j',i⟩,hann,h1⟩:=List.any_eq_true.1 hcj
     simp only [Bool.and_eq_true,beq_iff_eq] at h1
     obtain ⟨rfl,h1⟩:=h1
     have hni:=notX k0 i hann
     refine still k0 i hann hni hnx fun frp dst gd r d hop hev=>?_
     cases i with
     | op dst' gd' r'=>
      simp only [asOp,Option.some.injEq,Prod.mk.injEq] at hop
      obtain ⟨rfl,rfl,rfl⟩:=hop
      simp only [Bool.or_eq_true] at h1
      rcases h1 with h1 | h1
      ·exact evR_any h1 hev (sto k)
      ·have:isX (.op dst' gd' r')=kdX r':=rfl
       rw [this,h1] at hni
       cases hni
     | fz t=>cases h1
     | ck t r'=>cases h1
    ·have h1:=List.all_eq_true.1 hcj k (List.mem_range.2 (by omega))
     simp only [Bool.or_eq_true] at h1
     rcases h1 with h1 | h1
     ·exfalso
      obtain ⟨⟨x,p⟩,hxp,h2⟩:=List.any_eq_true.1 h1
      have hget:(xsOf is)[p]? = some x:=by
       obtain ⟨q,hq⟩:=List.mem_iff_getElem?.1 hxp
       simp [List.getElem?_zipIdx] at hq
       obtain ⟨y,hy,e1,e2⟩:=hq
       rw [←e2,←e1]
       exact hy
      simp only [Bool.or_eq_true,Bool.and_eq_true,Bool.not_eq_true',decide_eq_false_iff_not] at h2
      rcases h2 with ⟨h2,h3⟩ | ⟨h2,h3⟩
      ·exact h3 ((hxk p x hget).1 (hbef x h2))
      ·have hLx:=(hxk p x hget).2 (by omega)
       have:=(bbit_bef h2).closed (L:=fun q=>L.getD q false=true) hI.closed fun o e a1 a2 a3=>hI.closed x o e hLx a1 a2 a3
       rw [hjf] at this
       cases this
     ·obtain ⟨⟨k0,j',i⟩,hann,h2⟩:=List.any_eq_true.1 h1
      simp only [Bool.and_eq_true,beq_iff_eq] at h2
      obtain ⟨⟨rfl,rfl⟩,_⟩:=h2
      exact still k0 i hann (notX k0 i hann) hnx fun frp dst gd r d _ hev=>hev
 have hrep:∀ j,(Array.replicate ops.size false).getD j false=false:=by
  intro j
  by_cases h:j<ops.size <;> simp [h]
 refine wp_region_any hfol (main ops.size _ a w.drew ?_ ?_)
 ·refine Nat.le_trans List.countP_le_length ?_
  simp
 ·refine ⟨by simp,fun j o e h=>?_,rfl,0,fr,F,G,Nat.zero_le _,fun i x _=>?_,by rw [e0];exact hs1,by rw [e0];exact hx1,hf1,hlen.symm,fun j o t h=>?_,fun t _=>rfl⟩
  ·rw [hrep] at h;cases h
  ·rw [hrep];simp
  ·rw [hrep] at h;cases h
end
end Go.Proofs.YtjlmeikcfdanmaaGreatDoor.DE

namespace Go.Proofs.YtjlmeikcfdanmaaGreatDoor.DE
open Go
section
variable (P:Program) (dp:Nat→Option Fn)
def mC:C→Code→Bool
 | .bad,_=>true
 | .skip,.skip=>true
 | .reg is _,.region _ ops false=>mReg P dp ops.toList ops.toList is
 | .dreg is _,.region _ ops true=>mDr P dp ops.toList is
 | .seq a b,.seq c d=>mC a c&&mC b d
 | .cond x a b,.cond y c d=>mA dp y x&&mC a c&&mC b d
 | .blk i a,.block j b=>i == j&&mC a b
 | .loop _ a,.loop b=>mC a b
 | .exit i,.exit j=>i == j
 | .ret,.ret=>true
 | _,_=>false
def mRes:List ResultVar→List Res→Bool
 | [],[]=>true
 | .tmp t::l,.t n::m=>t == n&&mRes l m
 | .cell a t::l,.cell n k g::m=>a == n&&mT P t k g&&mRes l m
 | _,_=>false
def mFn (f:Fn):Bool:=match P.funcs[f.real]? with
 | some fn=>fn.name != "runtime.NumGoroutine" && fn.ntmps == f.nt&&mRes P fn.results.toList f.res&&(match fn.body with | some c=>mC P dp f.body c | none=>false)
 | none=>false
def Good:Prop:=∀ g f,dp g=some f→mFn P dp f=true
end
section
variable {P:Program} {dp:Nat→Option Fn} {F F':Fix} {G G':List Gh} {w w':World} {S S':Store} {a:Act} {fr fr':List D} {o:Oper} {d:D} {cf:CallF}
theorem Good.enter (h:Good P dp):Enter P dp:=by
 intro g f hg
 have hm:=h g f hg
 unfold mFn at hm
 split at hm
 ·rename_i fn hfn
  simp only [Bool.and_eq_true,bne_iff_ne,ne_eq] at hm
  refine ⟨fn,hfn,by simpa using hm.1.1.1,?_⟩
  have:=hm.2
  split at this
  ·rename_i c hc;simp [hc]
  ·cases this
 ·cases hm
def toExit:Ex→Exit
 | .normal=>.normal
 | .exit id=>.exit id
 | .ret=>.ret
theorem wp_loop_n {c:Code} {Q:Exit→Act→World→Prop} (J:Nat→Act→World→Prop) (round:∀ n a w,J n a w→c.wp P (Exit.then (fun a' w'=>∃ m,m<n∧J m a' w') Q) a w) :
  ∀ (n:Nat) (a:Act) (w:World),J n a w→(Code.loop c).wp P Q a w:=by
 have key:∀ n a w,J n a w→∀ (b:Frame) (k:List Item) (cs:List Frame),∃ e a' w',Q e a' w'∧Arrives P (lone (b.at a (.code c :: .inLoop c::k)) cs w) b k cs e a' w':=by
  intro n
  induction n using Nat.strongRecOn with
  | _ n ih=>
   intro a w hI b k cs
   obtain ⟨e,a₁,w₁,hq,harr⟩:=round n a w hI b (.inLoop c::k) cs
   cases e with
   | normal=>
    obtain ⟨m,hlt,hI₁⟩:=hq
    obtain ⟨e₂,a₂,w₂,hq₂,harr₂⟩:=ih m hlt a₁ w₁ hI₁ b k cs
    exact ⟨e₂,a₂,w₂,hq₂,.of_steps (Steps.trans harr (.one step_inLoop)) harr₂⟩
   | exit id=>exact ⟨_,a₁,w₁,hq,.pass (x:=.inLoop c) rfl (fun _ _=>.inl (by simp)) harr⟩
   | goto l=>exact ⟨_,a₁,w₁,hq,.pass (x:=.inLoop c) rfl (fun _ _=>.inl (by simp)) harr⟩
   | ret=>exact ⟨_,a₁,w₁,hq,.pass (x:=.inLoop c) rfl (fun _ _=>.inl (by simp)) harr⟩
   | panic ch=>exact ⟨_,a₁,w₁,hq,.pass (x:=.inLoop c) rfl (fun _ _=>.inl (by simp)) harr⟩
   | outgrown=>exact ⟨_,a₁,w₁,hq,.pass (x:=.inLoop c) rfl (fun _ _=>.inl (by simp)) harr⟩
 intro n a w h b k cs
 obtain ⟨e,a',w',hq,harr⟩:=key n a w h b k cs
 exact ⟨e,a',w',hq,.of_steps (.one step_loop) harr⟩
theorem ok_code (hfol:P.follows .mixedOrders=true) (hc:CallOk P dp cf) (hen:Enter P dp) (n:Nat):∀ (c:C) (code:Code),mC P dp c code=true→∀ {fr S ex fr' S'},exec cf n c fr S=some (ex,fr',S') →
  ∀ ⦃F G w a Q⦄,Sim dp F G w S→Fr dp F G w a fr →
   (∀ a' w' F' G',Sim dp F' G' w' S'→Ext F G w S F' G' w' S'→Fr dp F' G' w' a' fr'→a'.defers=a.defers→Q (toExit ex) a' w')→code.wp P Q a w
 | .bad,_,_,_,_,_,_,_,he=>by cases he
 | .skip,code,hm,fr,S,ex,fr',S',he=>by
  intro F G w a Q hs hf hQ
  cases code <;> simp only [mC] at hm <;> try (cases hm;done)
  simp only [exec,Option.some.injEq,Prod.mk.injEq] at he
  obtain ⟨rfl,rfl,rfl⟩:=he
  exact wp_skip (hQ a w F G hs (Ext.refl _ _ _ _) hf rfl)
 | .reg is kl,code,hm,fr,S,ex,fr',S',he=>by
  intro F G w a Q hs hf hQ
  obtain ⟨id,ops,rfl⟩:∃ id ops,code = .region id ops false:=by
   cases code
   case region id ops draw=>
    cases draw
    ·exact ⟨id,ops,rfl⟩
    ·simp [mC] at hm
   all_goals (simp [mC] at hm)
  simp only [mC] at hm
  simp only [exec] at he
  split at he
  ·rename_i fr1 S1 hev
   simp only [Option.some.injEq,Prod.mk.injEq] at he
   obtain ⟨rfl,rfl,rfl⟩:=he
   exact wp_region_list (ok_reg hc hen is _ hm hev hs hf fun a' w' F' G' k1 k2 k3 k4=>hQ a' w' F' G' k1 k2 (k3.kill kl) k4)
  ·cases he
 | .dreg is kl,code,hm,fr,S,ex,fr',S',he=>by
  intro F G w a Q hs hf hQ
  obtain ⟨id,ops,rfl⟩:∃ id ops,code = .region id ops true:=by
   cases code
   case region id ops draw=>
    cases draw
    ·simp [mC] at hm
    ·exact ⟨id,ops,rfl⟩
   all_goals (simp [mC] at hm)
  simp only [mC] at hm
  simp only [exec] at he
  split at he
  ·rename_i fr1 S1 hev
   simp only [Option.some.injEq,Prod.mk.injEq] at he
   obtain ⟨rfl,rfl,rfl⟩:=he
   exact wp_dreg hfol hc hen hm hev hs hf fun a' w' F' G' k1 k2 k3 k4=>hQ a' w' F' G' k1 k2 (k3.kill kl) k4
  ·cases he
 | .seq x y,code,hm,fr,S,ex,fr',S',he=>by
  intro F G w a Q hs hf hQ
  cases code <;> simp only [mC,Bool.and_eq_true] at hm <;> try (cases hm;done)
  rename_i x' y'
  refine wp_seq ?_
  simp only [exec] at he
  split at he
  ·rename_i fr1 S1 hev
   refine ok_code hfol hc hen n x x' hm.1 hev hs hf fun a' w' F' G' k1 k2 k3 k4=>?_
   exact ok_code hfol hc hen n y y' hm.2 he k1 k3 fun a'' w'' F'' G'' q1 q2 q3 q4=>hQ a'' w'' F'' G'' q1 (k2.trans q2) q3 (q4.trans k4)
  ·rename_i hno
   refine ok_code hfol hc hen n x x' hm.1 he hs hf fun a' w' F' G' k1 k2 k3 k4=>?_
   have:=hQ a' w' F' G' k1 k2 k3 k4
   cases ex with
   | normal=>exact (hno fr' S' he).elim
   | exit id=>exact this
   | ret=>exact this
 | .cond q x y,code,hm,fr,S,ex,fr',S',he=>by
  intro F G w a Q hs hf hQ
  cases code <;> simp only [mC,Bool.and_eq_true] at hm <;> try (cases hm;done)
  rename_i q' x' y'
  have hr:=hf.eval hm.1.1
  simp only [exec] at he
  split at he
  ·rename_i heq
   rw [heq] at hr
   generalize hv:a.eval q'=v at hr
   cases hr
   exact wp_cond_true hv (ok_code hfol hc hen n x x' hm.1.2 he hs hf hQ)
  ·rename_i heq
   rw [heq] at hr
   generalize hv:a.eval q'=v at hr
   cases hr
   exact wp_cond_false hv (ok_code hfol hc hen n y y' hm.2 he hs hf hQ)
  ·cases he
 | .blk id x,code,hm,fr,S,ex,fr',S',he=>by
  intro F G w a Q hs hf hQ
  cases code <;> simp only [mC,Bool.and_eq_true,beq_iff_eq] at hm <;> try (cases hm;done)
  rename_i id' x'
  obtain ⟨rfl,hm⟩:=hm
  refine wp_block ?_
  simp only [exec] at he
  split at he
  ·rename_i j fr1 S1 hev
   simp only [Option.some.injEq,Prod.mk.injEq] at he
   obtain ⟨rfl,rfl,rfl⟩:=he
   refine ok_code hfol hc hen n x x' hm hev hs hf fun a' w' F' G' k1 k2 k3 k4=>?_
   have:=hQ a' w' F' G' k1 k2 k3 k4
   simp only [toExit,Exit.inBlock]
   split
   ·rename_i hj
    rw [if_pos hj] at this
    exact this
   ·rename_i hj
    rw [if_neg hj] at this
    exact this
  ·rename_i hno
   refine ok_code hfol hc hen n x x' hm he hs hf fun a' w' F' G' k1 k2 k3 k4=>?_
   have:=hQ a' w' F' G' k1 k2 k3 k4
   cases ex with
   | normal=>exact this
   | exit j=>exact (hno j fr' S' he).elim
   | ret=>exact this
 | .loop kl x,code,hm,fr,S,ex,fr',S',he=>by
  intro F G w a Q hs hf hQ
  cases code <;> simp only [mC] at hm <;> try (cases hm;done)
  rename_i x'
  simp only [exec] at he
  refine wp_loop_n (fun m a1 w1=>∃ fr1 S1 F1 G1,iter (fun fr S=>exec cf n x (fkill fr kl) S) m fr1 S1=some (ex,fr',S')∧Sim dp F1 G1 w1 S1∧Ext F G w S F1 G1 w1 S1∧Fr dp F1 G1 w1 a1 fr1∧a1.defers=a.defers)
   (fun m a1 w1 hJ=>?_) n a w ⟨fr,S,F,G,he,hs,Ext.refl _ _ _ _,hf,rfl⟩
  obtain ⟨fr1,S1,F1,G1,hit,k1,k2,k3,k4⟩:=hJ
  cases m with
  | zero=>cases hit
  | succ m=>
   simp only [iter] at hit
   split at hit
   ·rename_i fr2 S2 hev
    refine ok_code hfol hc hen n x x' hm hev k1 (k3.kill kl) fun a2 w2 F2 G2 q1 q2 q3 q4=>?_
    exact ⟨m,Nat.lt_succ_self m,fr2,S2,F2,G2,hit,q1,k2.trans q2,q3,q4.trans k4⟩
   ·rename_i hno
    refine ok_code hfol hc hen n x x' hm hit k1 (k3.kill kl) fun a2 w2 F2 G2 q1 q2 q3 q4=>?_
    have:=hQ a2 w2 F2 G2 q1 (k2.trans q2) q3 (q4.trans k4)
    cases ex with
    | normal=>exact (hno fr' S' hit).elim
    | exit j=>exact this
    | ret=>exact this
 | .exit id,code,hm,fr,S,ex,fr',S',he=>by
  intro F G w a Q hs hf hQ
  cases code <;> simp only [mC,beq_iff_eq] at hm <;> try (cases hm;done)
  subst hm
  simp only [exec,Option.some.injEq,Prod.mk.injEq] at he
  obtain ⟨rfl,rfl,rfl⟩:=he
  exact wp_exit (hQ a w F G hs (Ext.refl _ _ _ _) hf rfl)
 | .ret,code,hm,fr,S,ex,fr',S',he=>by
  intro F G w a Q hs hf hQ
  cases code <;> simp only [mC] at hm <;> try (cases hm;done)
  simp only [exec,Option.some.injEq,Prod.mk.injEq] at he
  obtain ⟨rfl,rfl,rfl⟩:=he
  exact wp_ret (hQ a w F G hs (Ext.refl _ _ _ _) hf rfl)
theorem ld_var {t:TypeId} {k:Nat} {g:Bool} {v:Value} {id p:Nat} (hT:mT P t k g=true) (hs:Sim dp F G w S) (hr:Rel dp F G w v (.bx id p)) (he:ldD S k g (.bx id p)=some d) :
  ∃ ad u,v = .pointer (some ad)∧(loadVar t ad).run P w = .ok u w∧Rel dp F G w u d:=by
 cases hr with
 | bx _ _ gh hg=>
  simp only [ldD] at he
  split at he
  ·rename_i cs hsg
   obtain ⟨vs,T,hh,hl,_,_,hc⟩:=hs.ent id _ gh hsg hg
   have:=rd_rel (P:=P) (dp:=dp) (F:=F) (G:=G) (w:=w) (cs:=cs) (k:=k) (off:=p) (g:=g) (t:=t) (blk:=gh.blk) (base:=0) (c:=fun m=>vs.getD m undef) hT (fun m e hme=>by
    have hlt:m<vs.size:=Nat.lt_of_lt_of_le (List.getElem?_eq_some_iff.1 hme).1 hl
    have e1:vs[m]? = some (vs.getD m undef):=by simp [Array.getD,hlt]
    exact ⟨by rw [Nat.zero_add,cell_box hh,e1],hc m _ e e1 hme⟩) he
   rw [Nat.zero_add] at this
   obtain ⟨u,hu,hru⟩:=this
   exact ⟨_,u,rfl,hu,hru⟩
  ·cases he
def resF (a:Act):ResultVar→Sem Value
 | .tmp t=>pure (a.tmps.getD t undef)
 | .cell b t=>do loadVar t (←asAddr (a.tmps.getD b undef))
theorem results_eq (fn:Func) (a:Act):results fn a.tmps=(do let vs ←fn.results.mapM (resF a);pure (if h:vs.size=1 then vs[0] else .tuple vs)):=by
 unfold results
 congr 1
theorem run_results (hs:Sim dp F G w S) (hf:Fr dp F G w a fr):∀ {rs:List ResultVar} {ms:List Res} {l:List D},mRes P rs ms=true→resL fr S ms=some l →
  ∃ vs:List Value,(rs.mapM (resF a)).run P w = .ok vs w∧vs.length=l.length ∧
   ∀ (j:Nat) (v:Value) (d:D),vs[j]? = some v→l[j]? = some d→Rel dp F G w v d
 | [],[],l,_,he=>by
  simp only [resL,Option.some.injEq] at he
  subst he
  exact ⟨[],rfl,rfl,fun j v d h=>by simp at h⟩
 | [],_::_,_,hm,_=>by simp [mRes] at hm
 | .tmp t::rs,[],_,hm,_=>by simp [mRes] at hm
 | .cell b t::rs,[],_,hm,_=>by simp [mRes] at hm
 | .tmp t::rs,.cell n k g::ms,_,hm,_=>by simp [mRes] at hm
 | .cell b t::rs,.t n::ms,_,hm,_=>by simp [mRes] at hm
 | .tmp t::rs,.t n::ms,l,hm,he=>by
  simp only [mRes,Bool.and_eq_true,beq_iff_eq] at hm
  obtain ⟨rfl,hm⟩:=hm
  simp only [resL,res1] at he
  cases hr:resL fr S ms with
  | none=>simp [hr] at he
  | some m=>
   simp only [hr,Option.some.injEq] at he
   subst he
   obtain ⟨vs,h1,h2,h3⟩:=run_results hs hf hm hr
   refine ⟨a.tmps.getD t undef::vs,?_,by simp [h2],fun j v d hv hd=>?_⟩
   ·simp only [List.mapM_cons,resF,Sem.run_bind,Sem.run_pure,Result.andThen,h1]
   ·cases j with
    | zero=>simp at hv hd;subst hv hd;simpa using hf.rel t
    | succ j=>exact h3 j v d (by simpa using hv) (by simpa using hd)
 | .cell b t::rs,.cell n k g::ms,l,hm,he=>by
  simp only [mRes,Bool.and_eq_true,beq_iff_eq] at hm
  obtain ⟨⟨rfl,hT⟩,hm⟩:=hm
  simp only [resL] at he
  split at he
  ·rename_i d m hd hr
   simp only [Option.some.injEq] at he
   subst he
   obtain ⟨vs,h1,h2,h3⟩:=run_results hs hf hm hr
   simp only [res1] at hd
   split at hd
   ·rename_i id p heq
    have hrel:=hf.rel b
    rw [heq] at hrel
    obtain ⟨ad,u,q1,q2,q3⟩:=ld_var hT hs hrel hd
    refine ⟨u::vs,?_,by simp [h2],fun j v d hv hd=>?_⟩
    ·have qa:(asAddr (a.tmps.getD b undef)).run P w = .ok ad w:=by rw [q1];rfl
     simp only [List.mapM_cons,resF,Sem.run_bind,qa,Sem.run_pure,Result.andThen,q2,h1]
    ·cases j with
     | zero=>simp at hv hd;subst hv hd;exact q3
     | succ j=>exact h3 j v d (by simpa using hv) (by simpa using hd)
   ·cases hd
  ·cases he
theorem run_res {fn:Func} {f:Fn} {l:List D} (hs:Sim dp F G w S) (hf:Fr dp F G w a fr) (hm:mRes P fn.results.toList f.res=true) (he:resL fr S f.res=some l) :
  ∃ v,(results fn a.tmps).run P w = .ok v w∧Rel dp F G w v (resD l):=by
 obtain ⟨vs,h1,h2,h3⟩:=run_results hs hf hm he
 have hmap:(fn.results.mapM (resF a)).run P w = .ok vs.toArray w:=by
  rw [Array.mapM_eq_mapM_toList,Sem.run_map,h1]
  rfl
 refine ⟨if h:vs.toArray.size=1 then vs.toArray[0] else .tuple vs.toArray,?_,?_⟩
 ·rw [results_eq,Sem.run_bind,hmap]
  rfl
 ·by_cases h:vs.length=1
  ·match vs,l,h,h2 with
   | [v],[d],_,_=>
    simp [resD]
    exact h3 0 v d rfl rfl
  ·rw [dif_neg (by simpa using h)]
   have:resD l = .tup l:=by
    match l,h2 with
    | [],_=>rfl
    | [d],h2=>exact absurd h2 (by simpa using h)
    | _::_::_,_=>rfl
   rw [this]
   exact .tup _ _ (by simpa using h2) fun j v d hv hd=>h3 j v d (by simpa using hv) hd
theorem fget_append (l m:List D) (t:Nat):fget (l++m) t=if t<l.length then fget l t else fget m (t-l.length):=by
 induction l generalizing t with
 | nil=>simp
 | cons x l ih=>
  cases t with
  | zero=>simp [fget]
  | succ t=>
   simp only [List.cons_append,fget,ih,List.length_cons]
   by_cases h:t<l.length
   ·rw [if_pos h,if_pos (by omega)]
   ·rw [if_neg h,if_neg (by omega)];congr 1;omega
theorem fget_rep (n t:Nat):fget (List.replicate n D.top) t = .top:=by
 induction n generalizing t with
 | zero=>rfl
 | succ n ih=>
  cases t with
  | zero=>rfl
  | succ t=>simp only [List.replicate_succ,fget,ih]
theorem call_ok (hfol:P.follows .mixedOrders=true) (hgood:Good P dp):∀ n,CallOk P dp (callN dp n):=by
 have hen:=hgood.enter
 intro n
 induction n with
 | zero=>
  intro g f args S r S' _ he
  cases he
 | succ n ih=>
  intro g f args S r S' hg he F G w vs hs hv R hR
  simp only [callN,hg] at he
  split at he
  ·rename_i hnp
   have hm:=hgood g f hg
   unfold mFn at hm
   split at hm
   ·rename_i fn hfn
    simp only [Bool.and_eq_true,beq_iff_eq] at hm
    obtain ⟨⟨⟨_,hnt⟩,hres⟩,hbody⟩:=hm
    split at hbody
    ·rename_i code hcode
     refine calls_of_wp hfn hcode ?_
     have hfr:Fr dp F G w { tmps:=vs++Array.replicate (fn.ntmps-vs.size) undef,defers:=[] } (frame0 f args):=by
      refine ⟨?_,fun t=>?_⟩
      ·simp [frame0,hv.1,hnt,hnp.1]
      ·simp only [frame0,fget_append]
       by_cases ht:t<args.length
       ·rw [if_pos ht]
        have ht':t<vs.size:=by rw [hv.1];exact ht
        have e1:(vs++Array.replicate (fn.ntmps-vs.size) undef).getD t undef=vs[t]:=by
         simp [Array.getElem?_append,ht']
        rw [e1,fget_getElem args t args[t] (List.getElem?_eq_getElem ht)]
        exact hv.2 t _ _ (Array.getElem?_eq_getElem ht') (List.getElem?_eq_getElem ht)
       ·rw [if_neg ht,fget_rep]
        exact .top _
     have fin:∀ (fr':List D) (S1:Store) (l:List D),resL fr' S1 f.res=some l→r=resD l→S'=S1→∀ a' w' F' G',Sim dp F' G' w' S1→Ext F G w S F' G' w' S1→Fr dp F' G' w' a' fr'→a'.defers=[] →
       a'.defers=[]∧∃ v,(results fn a'.tmps).run P w' = .ok v w'∧R (.returned v) w':=by
      intro fr' S1 l h1 h2 h3 a' w' F' G' k1 k2 k3 k4
      subst h2 h3
      obtain ⟨v,q1,q2⟩:=run_res k1 k3 hres h1
      exact ⟨k4,v,q1,hR v w' F' G' k1 k2 q2⟩
     unfold finish at he
     split at he
     ·rename_i fr' S1 hex
      cases hl:resL fr' S1 f.res with
      | none=>simp [hl] at he
      | some l=>
       simp only [hl,Option.map_some,Option.some.injEq,Prod.mk.injEq] at he
       exact ok_code hfol ih hen n f.body code hbody hex hs hfr fun a' w' F' G' k1 k2 k3 k4=>fin fr' S1 l hl he.1.symm he.2.symm a' w' F' G' k1 k2 k3 k4
     ·rename_i fr' S1 hex
      cases hl:resL fr' S1 f.res with
      | none=>simp [hl] at he
      | some l=>
       simp only [hl,Option.map_some,Option.some.injEq,Prod.mk.injEq] at he
       exact ok_code hfol ih hen n f.body code hbody hex hs hfr fun a' w' F' G' k1 k2 k3 k4=>fin fr' S1 l hl he.1.symm he.2.symm a' w' F' G' k1 k2 k3 k4
     ·cases he
    ·cases hbody
   ·cases hm
  ·cases he
theorem call_sound (hfol:P.follows .mixedOrders=true) (hgood:Good P dp):CallOk P dp (call dp):=by
 intro g f args S r S' hg he
 obtain ⟨n,hn⟩:=(call_iff g args S (r,S')).1 he
 exact call_ok hfol hgood n g f args S r S' hg hn
end
end Go.Proofs.YtjlmeikcfdanmaaGreatDoor.DE

namespace Go.Proofs.YtjlmeikcfdanmaaGreatDoor.DE
def c4:C:=
 (.q [.m 6 (.c (.b false))] [6] (.seq (.q [.o 11 (.call 10 true []),.o 12 (.un .not 11),.m 13 12,.h 14 13 (.mv 0),.h 15 13 (.call 12 true [14]),.h 16 13 (.un .not 15),.o 17 (.pick 13 (.c (.b true)) 16),.m 18 17,.h 19 18 (.mv 1),.h 20 18 (.bsl 1 false false [19]),.h 21 18 (.call 30 true [.k 40,20]),.h 22 18 (.un .not 21),.o 23 (.pick 18 (.c (.b true)) 22)] [11,12,13,14,15,16,17,18,19,20,21,22] (.cond 23 (.q [.o 24 (.call 10 true []),.m 6 24] [0,1,2,23,24] .ret) .skip)) (.q [.m 26 0,.m 27 1,.m 28 2,.o 29 (.call 31 true [26,27,28]),.m 25 29,.o 30 (.ext 25 0),.o 31 (.ext 25 1),.o 7 (.alloc [.sl 2 true [] .ro,.sl 3 true [] .ro,.i .i64 0]),.e (.st 3 true 7 30),.m 8 31] [23,25,26,27,28,29,30,31] (.q [.m 33 0,.m 34 1,.m 35 2,.o 36 (.call 32 true [33,34,35]),.m 32 36,.o 37 (.ext 32 0),.o 38 (.ext 32 1),.o 9 (.alloc [.sl 2 true [] .ro,.sl 3 true [] .ro,.i .i64 0]),.e (.st 3 true 9 37),.m 10 38] [0,1,32,33,34,35,36,37,38] (.q [.m 39 8,.m 40 10,.o 41 (.n .eql 39 40),.m 42 41,.g 43 42 (.ld 3 true 7),.g 44 42 (.ld 3 true 9),.g 45 42 (.call 17 true [43,44]),.o 46 (.pick 42 45 (.c (.b false))),.m 47 46,.g 48 47 (.mv 8),.g 49 47 (.n .neq 48 (.k 0)),.g 50 47 (.mv 49),.h 51 50 (.ld 3 true 7),.h 52 50 (.call 33 true [51]),.h 53 50 (.mv 52),.g 54 53 (.fa 1 7),.g 55 53 (.ld 1 false 54),.g 56 53 (.len false 55),.g 57 53 (.mv 2),.g 58 53 (.n .leq 56 57),.h 59 50 (.pick 53 58 (.c (.b false))),.g 60 47 (.pick 50 (.c (.b true)) 59),.o 61 (.pick 47 60 (.c (.b false))),.m 6 61] [2,7,8,9,10,39,40,41,42,43,44,45,46,47,48,49,50,51,52,53,54,55,56,57,58,59,60,61] .ret)))))
def d4:Fn:={ real:=4,np:=3,nt:=62,res:=[.t 6],body:=c4 }
def c10:C:=
 (.q [.m 0 (.c (.b false))] [0] (.q [.o 6 (.call 46 true []),.o 7 (.ia 2 6 (.k 0)),.o 8 (.ld 2 true 7),.o 9 (.call 45 true [8]),.o 10 (.call 46 true []),.o 11 (.ia 2 10 (.k 1)),.o 12 (.ld 2 true 11),.o 13 (.call 45 true [12]),.o 14 (.call 44 true [9,13]),.m 1 14] [6,7,8,9,10,11,12,13,14] (.q [.o 16 (.call 46 true []),.m 17 1,.o 18 (.call 31 true [16,17,.k 9]),.m 15 18,.o 19 (.ext 15 0),.o 20 (.ext 15 1),.o 2 (.alloc [.sl 2 true [] .ro,.sl 3 true [] .ro,.i .i64 0]),.e (.st 3 true 2 19),.m 3 20] [1,15,16,17,18,19,20] (.q [.o 22 (.ld 3 true 2),.o 23 (.call 35 true [22]),.m 21 23,.o 24 (.ext 21 0),.o 25 (.ext 21 1),.m 4 24,.m 5 25] [21,22,23,24,25] (.seq (.dreg [(0,.m 26 3),(1,.o 27 (.n .eql 26 (.k 0))),(2,.m 28 27),(3,.g 29 28 (.mv 5)),(4,.g 30 28 (.n .eql 29 (.k 0))),(5,.o 31 (.pick 28 30 (.c (.b false)))),(6,.m 32 31),(7,.g 33 32 (.ld 3 true 2)),(8,.g 34 32 (.call 46 true [])),(9,.g 35 32 (.bld [.i .i64 0,.i .i64 0,.i .i64 0] [(0,1,false,.k 1),(2,1,false,.k 1)])),(10,.g 36 32 (.bld [.i .i64 0,.i .i64 0,.i .i64 0] [(2,1,false,.k 2)])),(11,.g 37 32 (.bsl 3 true false [35,36])),(12,.g 38 32 (.bld [.sl 2 true [] .ro,.sl 3 true [] .ro,.i .i64 0] [(0,1,false,34),(1,1,false,37),(2,1,false,.k 3)])),(13,.g 39 32 (.call 17 true [33,38])),(14,.o 40 (.pick 32 39 (.c (.b false)))),(15,.m 41 40),(16,.g 42 41 (.mv 4)),(17,.g 43 41 (.call 47 true [42])),(18,.g 44 41 (.bin .eql .str 43 (.c (.s [49])))),(19,.o 45 (.pick 41 44 (.c (.b false)))),(20,.m 0 45)] [2,3,4,5,26,27,28,29,30,31,32,33,34,35,36,37,38,39,40,41,42,43,44,45]) .ret)))))
def d10:Fn:={ real:=10,np:=0,nt:=46,res:=[.t 0],body:=c10 }
def c12:C:=
 (.q [.m 2 (.c (.b false))] [2] (.q [.m 3 0,.o 4 (.len false 3),.o 5 (.n .leq 4 (.k 7)),.m 2 5] [0,3,4,5] .ret))
def d12:Fn:={ real:=12,np:=1,nt:=6,res:=[.t 2],body:=c12 }
def c13:C:=
 (.q [.o 4 (.alloc [.sl 2 true [] .ro,.sl 3 true [] .ro,.i .i64 0])] [] (.seq (.q [.m 6 0,.o 7 (.call 48 true [6]),.o 8 (.un .not 7)] [6,7] (.cond 8 (.q [.o 9 (.bld [.sl 2 true [] .ro,.sl 3 true [] .ro,.i .i64 0] []),.e (.st 3 true 4 9)] [0,1,8,9] .ret) .skip)) (.q [.m 10 0,.o 11 (.call 49 true [10]),.o 12 (.bld [.sl 2 true [] .ro,.sl 3 true [] .ro,.i .i64 0] [(0,1,false,11)]),.o 5 (.alloc [.sl 2 true [] .ro,.sl 3 true [] .ro,.i .i64 0]),.e (.st 3 true 5 12)] [0,8,10,11,12] (.seq (.q [.m 13 1] [1] (.cond 13 (.reg [.o 14 (.fa 2 5),.e (.st 1 false 14 (.k 1))] [13,14]) .skip)) (.q [.o 15 (.ld 3 true 5),.e (.st 3 true 4 15)] [5,13,15] .ret)))))
def d13:Fn:={ real:=13,np:=2,nt:=16,res:=[.cell 4 3 true],body:=c13 }
def c14:C:=
 (.q [.o 3 (.box 2 true 1),.o 4 (.alloc [.sl 2 true [] .ro,.sl 3 true [] .ro,.i .i64 0]),.m 5 (.k 0)] [1,5] (.seq (.q [.m 7 0,.o 8 (.call 48 true [7]),.o 9 (.un .not 8)] [7,8] (.cond 9 (.q [.o 10 (.bld [.sl 2 true [] .ro,.sl 3 true [] .ro,.i .i64 0] []),.e (.st 3 true 4 10),.m 5 (.k 1)] [0,3,9,10] .ret) .skip)) (.q [.m 11 0,.o 12 (.ld 2 true 3),.o 13 (.call 50 true [11,12]),.m 6 13] [3,9,11,12,13] (.seq (.q [.m 14 6,.o 15 (.n .lss 14 (.k 0))] [14] (.cond 15 (.q [.o 16 (.bld [.sl 2 true [] .ro,.sl 3 true [] .ro,.i .i64 0] []),.e (.st 3 true 4 16),.m 5 (.k 4)] [0,6,15,16] .ret) .skip)) (.q [.m 17 0,.o 18 (.call 49 true [17]),.m 19 6,.o 20 (.bld [.i .i64 0,.i .i64 0,.i .i64 0] [(0,1,false,19),(1,1,false,.k 0),(2,1,false,.k 1)]),.o 21 (.bsl 3 true false [20]),.o 22 (.bld [.sl 2 true [] .ro,.sl 3 true [] .ro,.i .i64 0] [(0,1,false,18),(1,1,false,21),(2,1,false,.k 2)]),.e (.st 3 true 4 22),.m 5 (.k 0)] [0,6,15,17,18,19,20,21,22] .ret)))))
def d14:Fn:={ real:=14,np:=2,nt:=23,res:=[.cell 4 3 true,.t 5],body:=c14 }
def c15_0:C:=
 .seq (.q [.m 6 5,.m 7 0,.o 8 (.len false 7),.o 9 (.n .lss 6 8)] [6,7,8] (.cond 9 .skip (.exit 0))) (.seq (.blk 1 (.seq (.dreg [(0,.m 12 0),(1,.m 13 5),(2,.o 14 (.ia 2 12 13)),(3,.o 15 (.ld 2 true 14)),(4,.o 16 (.ld 2 true 3)),(5,.o 17 (.bin .eql (.agg [.i,.i]) 15 16))] [9,12,13,14,15,16]) (.cond 17 (.q [.m 18 5,.m 4 18] [0,3,5,17,18] .ret) .skip))) (.reg [.m 10 5,.o 11 (.n .add 10 (.k 1)),.m 5 11] [10,11,17]))
def c15_r0:C:=
 .q [.o 4 (.mv (.k (-1)))] [0,3,5,9] .ret
def c15:C:=
 (.q [.o 3 (.box 2 true 1),.m 4 (.k 0)] [1,4] (.seq (.q [.m 5 (.k 0)] [] (.blk 0 (.loop [] c15_0))) c15_r0))
def d15:Fn:={ real:=15,np:=2,nt:=19,res:=[.t 4],body:=c15 }
def c16_0:C:=
 .seq (.q [.m 17 4,.m 18 3,.o 19 (.n .lss 17 18)] [17,18] (.cond 19 .skip (.exit 2))) (.seq (.blk 3 (.seq (.dreg [(0,.m 22 0),(1,.m 23 4),(2,.o 24 (.ia 2 22 23)),(3,.o 25 (.ld 2 true 24)),(4,.m 26 0),(5,.m 27 3),(6,.o 28 (.ia 2 26 27)),(7,.o 29 (.ld 2 true 28)),(8,.o 30 (.bin .eql (.agg [.i,.i]) 25 29))] [19,22,23,24,25,26,27,28,29]) (.cond 30 (.q [.m 2 (.c (.b false))] [0,3,4,30] .ret) .skip))) (.reg [.m 20 4,.o 21 (.n .add 20 (.k 1)),.m 4 21] [20,21,30]))
def c16_r0:C:=
 .reg [.m 9 3,.o 10 (.n .add 9 (.k 1)),.m 3 10] [4,9,10,19]
def c16_1:C:=
 .seq (.q [.m 5 3,.m 6 0,.o 7 (.len false 6),.o 8 (.n .lss 5 7)] [5,6,7] (.cond 8 .skip (.exit 0))) (.seq (.blk 1 (.seq (.q [.m 11 0,.m 12 3,.o 13 (.ia 2 11 12),.o 14 (.ld 2 true 13),.o 15 (.call 51 true [14]),.o 16 (.un .not 15)] [8,11,12,13,14,15] (.cond 16 (.q [.m 2 (.c (.b false))] [0,3,16] .ret) .skip)) (.q [.m 4 (.k 0)] [16] (.blk 2 (.loop [] c16_0))))) c16_r0)
def c16_r1:C:=
 .q [.m 31 0,.o 32 (.len false 31),.o 33 (.n .leq 32 (.k 4096)),.m 2 33] [0,3,8,31,32,33] .ret
def c16:C:=
 (.q [.m 2 (.c (.b false))] [2] (.seq (.q [.m 3 (.k 0)] [] (.blk 0 (.loop [] c16_1))) c16_r1))
def d16:Fn:={ real:=16,np:=1,nt:=34,res:=[.t 2],body:=c16 }
def c17_0:C:=
 .seq (.q [.m 28 5,.o 29 (.fa 1 2),.o 30 (.ld 1 false 29),.o 31 (.len false 30),.o 32 (.n .lss 28 31)] [28,29,30,31] (.cond 32 .skip (.exit 0))) (.seq (.blk 1 (.seq (.dreg [(0,.o 35 (.fa 1 2)),(1,.o 36 (.ld 1 false 35)),(2,.m 37 5),(3,.o 38 (.ia 3 36 37)),(4,.o 39 (.ld 3 true 38)),(5,.o 40 (.fa 1 3)),(6,.o 41 (.ld 1 false 40)),(7,.m 42 5),(8,.o 43 (.ia 3 41 42)),(9,.o 44 (.ld 3 true 43)),(10,.o 45 (.bin .neq (.agg [.i,.i,.i]) 39 44))] [32,35,36,37,38,39,40,41,42,43,44]) (.cond 45 (.q [.m 4 (.c (.b false))] [2,3,5,45] .ret) .skip))) (.reg [.m 33 5,.o 34 (.n .add 33 (.k 1)),.m 5 34] [33,34,45]))
def c17_r0:C:=
 .q [.m 4 (.c (.b true))] [2,3,5,32] .ret
def c17:C:=
 (.q [.o 2 (.box 3 true 0),.o 3 (.box 3 true 1),.m 4 (.c (.b false))] [0,1,4] (.seq (.q [.o 6 (.fa 2 2),.o 7 (.ld 1 false 6),.o 8 (.fa 2 3),.o 9 (.ld 1 false 8),.o 10 (.n .neq 7 9),.m 11 10,.h 12 11 (.fa 0 2),.h 13 11 (.ld 1 false 12),.h 14 11 (.fa 0 3),.h 15 11 (.ld 1 false 14),.h 16 11 (.call 52 true [13,15]),.h 17 11 (.un .not 16),.o 18 (.pick 11 (.c (.b true)) 17),.m 19 18,.h 20 19 (.fa 1 2),.h 21 19 (.ld 1 false 20),.h 22 19 (.len false 21),.h 23 19 (.fa 1 3),.h 24 19 (.ld 1 false 23),.h 25 19 (.len false 24),.h 26 19 (.n .neq 22 25),.o 27 (.pick 19 (.c (.b true)) 26)] [6,7,8,9,10,11,12,13,14,15,16,17,18,19,20,21,22,23,24,25,26] (.cond 27 (.q [.m 4 (.c (.b false))] [2,3,27] .ret) .skip)) (.seq (.q [.m 5 (.k 0)] [27] (.blk 0 (.loop [] c17_0))) c17_r0)))
def d17:Fn:={ real:=17,np:=2,nt:=46,res:=[.t 4],body:=c17 }
def c18:C:=
 (.q [.o 4 (.alloc [.sl 2 true [] .ro,.sl 3 true [] .ro,.i .i64 0])] [] (.q [.m 8 1,.m 9 0,.o 10 (.len false 9),.o 11 (.bsl 3 true true []),.o 12 (.call 53 false [8,10,.k 0,.k 0,11]),.m 7 12,.o 13 (.ext 7 0),.o 14 (.ext 7 1),.m 5 13,.m 6 14] [1,7,8,9,10,11,12,13,14] (.q [.m 15 0,.m 16 6,.m 17 5,.o 18 (.bld [.sl 2 true [] .ro,.sl 3 true [] .ro,.i .i64 0] [(0,1,false,15),(1,1,false,16),(2,1,false,17)]),.e (.st 3 true 4 18)] [0,5,6,15,16,17,18] .ret)))
def d18:Fn:={ real:=18,np:=2,nt:=19,res:=[.cell 4 3 true],body:=c18 }
def c19_0:C:=
 .seq (.q [.m 8 6,.m 9 0,.o 10 (.n .shl (.k 1) 9),.o 11 (.n .lss 8 10)] [8,9,10] (.cond 11 .skip (.exit 0))) (.seq (.blk 1 (.reg [.m 14 5,.m 15 1,.o 16 (.bsl 1 false false [15]),.o 17 (.app 1 false 14 16),.m 5 17] [11,14,15,16,17])) (.reg [.m 12 6,.o 13 (.n .add 12 (.k 1)),.m 6 13] [12,13]))
def c19_r0:C:=
 .q [.m 18 5,.m 4 18] [0,1,5,6,11,18] .ret
def c19:C:=
 (.q [.m 4 (.c (.sl 1 true [] .ro))] [4] (.q [.o 7 (.bsl 1 false true []),.m 5 7] [7] (.seq (.q [.m 6 (.k 0)] [] (.blk 0 (.loop [] c19_0))) c19_r0)))
def d19:Fn:={ real:=19,np:=2,nt:=19,res:=[.t 4],body:=c19 }
def c20_0:C:=
 .seq (.q [.m 8 6,.m 9 0,.o 10 (.n .shl (.k 1) 9),.o 11 (.n .lss 8 10)] [8,9,10] (.cond 11 .skip (.exit 0))) (.seq (.blk 1 (.reg [.m 14 5,.m 15 6,.m 16 1,.o 17 (.n .shr 15 16),.o 18 (.n .rem 17 (.k 2)),.o 19 (.n .eql 18 (.k 1)),.o 20 (.bsl 1 false false [19]),.o 21 (.app 1 false 14 20),.m 5 21] [11,14,15,16,17,18,19,20,21])) (.reg [.m 12 6,.o 13 (.n .add 12 (.k 1)),.m 6 13] [12,13]))
def c20_r0:C:=
 .q [.m 22 5,.m 4 22] [0,1,5,6,11,22] .ret
def c20:C:=
 (.q [.m 4 (.c (.sl 1 true [] .ro))] [4] (.q [.o 7 (.bsl 1 false true []),.m 5 7] [7] (.seq (.q [.m 6 (.k 0)] [] (.blk 0 (.loop [] c20_0))) c20_r0)))
def d20:Fn:={ real:=20,np:=2,nt:=23,res:=[.t 4],body:=c20 }
def c21:C:=
 (.q [.o 2 (.box 3 true 0),.o 3 (.box 3 true 1),.o 4 (.alloc [.sl 2 true [] .ro,.sl 3 true [] .ro,.i .i64 0]),.m 5 (.k 0)] [0,1,5] (.q [.o 6 (.ld 3 true 2),.o 7 (.ld 3 true 3),.o 8 (.call 54 true [6,7,.k 0]),.o 9 (.ext 8 0),.o 10 (.ext 8 1),.e (.st 3 true 4 9),.m 5 10] [2,3,6,7,8,9,10] .ret))
def d21:Fn:={ real:=21,np:=2,nt:=11,res:=[.cell 4 3 true,.t 5],body:=c21 }
def c22:C:=
 (.q [.o 2 (.box 3 true 0),.o 3 (.box 3 true 1),.o 4 (.alloc [.sl 2 true [] .ro,.sl 3 true [] .ro,.i .i64 0]),.m 5 (.k 0)] [0,1,5] (.q [.o 6 (.ld 3 true 2),.o 7 (.ld 3 true 3),.o 8 (.call 54 true [6,7,.k 1]),.o 9 (.ext 8 0),.o 10 (.ext 8 1),.e (.st 3 true 4 9),.m 5 10] [2,3,6,7,8,9,10] .ret))
def d22:Fn:={ real:=22,np:=2,nt:=11,res:=[.cell 4 3 true,.t 5],body:=c22 }
def c23_0:C:=
 .q [.o 23 (.n .lss 22 21)] [] (.seq (.cond 23 .skip (.exit 0)) (.seq (.blk 1 (.q [.o 24 (.ia 3 20 22),.o 25 (.ld 3 true 24),.o 6 (.alloc [.i .i64 0,.i .i64 0,.i .i64 0]),.e (.st 3 true 6 25)] [23,24,25] (.dreg [(0,.o 26 (.fa 1 4)),(1,.o 27 (.ld 1 false 26)),(2,.o 28 (.fa 0 6)),(3,.o 29 (.ld 1 false 28)),(4,.m 30 3),(5,.o 31 (.fa 1 6)),(6,.o 32 (.ld 1 false 31)),(7,.o 33 (.calld 30 true [32])),(8,.m 34 3),(9,.o 35 (.fa 2 6)),(10,.o 36 (.ld 1 false 35)),(11,.o 37 (.calld 34 true [36])),(12,.o 38 (.bld [.i .i64 0,.i .i64 0,.i .i64 0] [(0,1,false,29),(1,1,false,33),(2,1,false,37)])),(13,.o 39 (.bsl 3 true false [38])),(14,.o 40 (.app 3 false 27 39)),(15,.o 41 (.fa 1 4)),(16,.e (.st 1 false 41 40))] [6,26,27,28,29,30,31,32,33,34,35,36,37,38,39,40,41]))) (.reg [.o 42 (.n .add 22 (.k 1)),.m 22 42] [42])))
def c23_r0:C:=
 .q [.o 43 (.ld 3 true 4),.e (.st 3 true 2 43)] [3,4,20,21,22,23,43] .ret
def c23:C:=
 (.q [.o 1 (.box 3 true 0),.o 2 (.alloc [.sl 2 true [] .ro,.sl 3 true [] .ro,.i .i64 0])] [0] (.seq (.q [.o 7 (.ld 3 true 1),.o 8 (.call 33 true [7]),.o 9 (.un .not 8)] [7,8] (.cond 9 (.q [.o 10 (.bld [.sl 2 true [] .ro,.sl 3 true [] .ro,.i .i64 0] []),.e (.st 3 true 2 10)] [1,9,10] .ret) .skip)) (.q [.m 3 (.c (.fn 55 []))] [9] (.seq (.dreg [(0,.o 11 (.fa 0 1)),(1,.o 12 (.ld 1 false 11)),(2,.o 13 (.call 49 true [12])),(3,.m 14 3),(4,.o 15 (.fa 2 1)),(5,.o 16 (.ld 1 false 15)),(6,.o 17 (.calld 14 true [16])),(7,.o 18 (.bld [.sl 2 true [] .ro,.sl 3 true [] .ro,.i .i64 0] [(0,1,false,13),(2,1,false,17)])),(8,.o 4 (.alloc [.sl 2 true [] .ro,.sl 3 true [] .ro,.i .i64 0])),(1,.ck 12 (.ld 1 false 11)),(5,.ck 16 (.ld 1 false 15)),(9,.e (.st 3 true 4 18))] [11,12,13,14,15,16,17,18]) (.seq (.q [.o 19 (.fa 1 1),.o 20 (.ld 1 false 19),.o 21 (.len false 20),.m 22 (.k 0)] [1,19] (.blk 0 (.loop [] c23_0))) c23_r0)))))
def d23:Fn:={ real:=23,np:=1,nt:=44,res:=[.cell 2 3 true],body:=c23 }
def c26_0:C:=
 .seq (.q [.m 6 4,.m 7 0,.o 8 (.len false 7),.o 9 (.n .lss 6 8)] [6,7,8] (.cond 9 .skip (.exit 0))) (.seq (.blk 1 (.reg [.m 12 3,.m 13 0,.m 14 4,.o 15 (.ia 1 13 14),.o 16 (.ld 1 false 15),.o 17 (.un .not 16),.o 18 (.bsl 1 false false [17]),.o 19 (.app 1 false 12 18),.m 3 19] [9,12,13,14,15,16,17,18,19])) (.reg [.m 10 4,.o 11 (.n .add 10 (.k 1)),.m 4 11] [10,11]))
def c26_r0:C:=
 .q [.m 20 3,.m 2 20] [0,3,4,9,20] .ret
def c26:C:=
 (.q [.m 2 (.c (.sl 1 true [] .ro))] [2] (.q [.o 5 (.bsl 1 false true []),.m 3 5] [5] (.seq (.q [.m 4 (.k 0)] [] (.blk 0 (.loop [] c26_0))) c26_r0)))
def d26:Fn:={ real:=26,np:=1,nt:=21,res:=[.t 2],body:=c26 }
def c28_0:C:=
 .seq (.q [.m 8 6,.m 9 0,.o 10 (.len false 9),.o 11 (.n .lss 8 10)] [8,9,10] (.cond 11 .skip (.exit 0))) (.seq (.blk 1 (.reg [.m 14 5,.m 15 0,.m 16 6,.o 17 (.ia 1 15 16),.o 18 (.ld 1 false 17),.m 19 18,.g 20 19 (.mv 1),.g 21 19 (.mv 6),.g 22 19 (.ia 1 20 21),.g 23 19 (.ld 1 false 22),.o 24 (.pick 19 23 (.c (.b false))),.o 25 (.bsl 1 false false [24]),.o 26 (.app 1 false 14 25),.m 5 26] [11,14,15,16,17,18,19,20,21,22,23,24,25,26])) (.reg [.m 12 6,.o 13 (.n .add 12 (.k 1)),.m 6 13] [12,13]))
def c28_r0:C:=
 .q [.m 27 5,.m 4 27] [0,1,5,6,11,27] .ret
def c28:C:=
 (.q [.m 4 (.c (.sl 1 true [] .ro))] [4] (.q [.o 7 (.bsl 1 false true []),.m 5 7] [7] (.seq (.q [.m 6 (.k 0)] [] (.blk 0 (.loop [] c28_0))) c28_r0)))
def d28:Fn:={ real:=28,np:=2,nt:=28,res:=[.t 4],body:=c28 }
def c29_0:C:=
 .seq (.q [.m 8 6,.m 9 0,.o 10 (.len false 9),.o 11 (.n .lss 8 10)] [8,9,10] (.cond 11 .skip (.exit 0))) (.seq (.blk 1 (.reg [.m 14 5,.m 15 0,.m 16 6,.o 17 (.ia 1 15 16),.o 18 (.ld 1 false 17),.m 19 18,.h 20 19 (.mv 1),.h 21 19 (.mv 6),.h 22 19 (.ia 1 20 21),.h 23 19 (.ld 1 false 22),.o 24 (.pick 19 (.c (.b true)) 23),.o 25 (.bsl 1 false false [24]),.o 26 (.app 1 false 14 25),.m 5 26] [11,14,15,16,17,18,19,20,21,22,23,24,25,26])) (.reg [.m 12 6,.o 13 (.n .add 12 (.k 1)),.m 6 13] [12,13]))
def c29_r0:C:=
 .q [.m 27 5,.m 4 27] [0,1,5,6,11,27] .ret
def c29:C:=
 (.q [.m 4 (.c (.sl 1 true [] .ro))] [4] (.q [.o 7 (.bsl 1 false true []),.m 5 7] [7] (.seq (.q [.m 6 (.k 0)] [] (.blk 0 (.loop [] c29_0))) c29_r0)))
def d29:Fn:={ real:=29,np:=2,nt:=28,res:=[.t 4],body:=c29 }
def c30_0:C:=
 .seq (.q [.m 6 5,.m 7 1,.o 8 (.len false 7),.o 9 (.n .lss 6 8)] [6,7,8] (.cond 9 .skip (.exit 0))) (.seq (.blk 1 (.q [.m 12 1,.m 13 5,.o 14 (.ia 1 12 13),.o 15 (.ld 1 false 14),.m 16 0,.o 17 (.call 59 true [15,16,.k 12]),.m 18 0,.o 19 (.n .gtr 17 18)] [9,12,13,14,15,16,17,18] (.cond 19 (.q [.m 4 (.c (.b false))] [0,1,5,19] .ret) .skip))) (.reg [.m 10 5,.o 11 (.n .add 10 (.k 1)),.m 5 11] [10,11,19]))
def c30_r0:C:=
 .q [.m 4 (.c (.b true))] [0,1,5,9] .ret
def c30:C:=
 (.q [.m 4 (.c (.b false))] [4] (.seq (.q [.m 5 (.k 0)] [] (.blk 0 (.loop [] c30_0))) c30_r0))
def d30:Fn:={ real:=30,np:=2,nt:=20,res:=[.t 4],body:=c30 }
def c31:C:=
 (.q [.o 3 (.box 1 false 0),.o 6 (.alloc [.sl 2 true [] .ro,.sl 3 true [] .ro,.i .i64 0]),.m 7 (.k 0)] [0,7] (.seq (.blk 0 (.q [.o 9 (.ld 1 false 3),.o 10 (.call 48 true [9]),.o 11 (.un .not 10),.m 12 11,.h 13 12 (.mv 1),.h 14 12 (.call 60 true [13]),.h 15 12 (.un .not 14),.o 16 (.pick 12 (.c (.b true)) 15),.m 17 16,.h 18 17 (.mv 2),.h 19 17 (.n .lss 18 (.k 0)),.o 20 (.pick 17 (.c (.b true)) 19),.m 8 20] [9,10,11,12,13,14,15,16,17,18,19,20] (.cond 8 (.q [.o 21 (.bld [.sl 2 true [] .ro,.sl 3 true [] .ro,.i .i64 0] []),.e (.st 3 true 6 21),.m 7 (.k 1)] [1,2,3,8,21] .ret) (.q [.m 23 1,.o 24 (.call 61 true [23]),.m 22 24] [8,23,24] (.cond 22 (.q [.o 25 (.bld [.sl 2 true [] .ro,.sl 3 true [] .ro,.i .i64 0] []),.e (.st 3 true 6 25),.m 7 (.k 13)] [1,2,3,22,25] .ret) (.q [.m 27 1,.o 28 (.call 63 true [27]),.o 29 (.mkfn 64 [3]),.o 30 (.call 62 false [28,29]),.m 26 30] [22,27,28,29,30] (.cond 26 (.q [.o 31 (.bld [.sl 2 true [] .ro,.sl 3 true [] .ro,.i .i64 0] []),.e (.st 3 true 6 31),.m 7 (.k 4)] [1,2,3,26,31] .ret) .skip))))))) (.q [.o 32 (.ld 1 false 3),.m 33 2,.o 34 (.bld [.sl 2 true [] .ro,.i .i64 0] [(0,1,false,32),(1,1,false,33)]),.m 35 1,.o 36 (.call 66 true [34,35]),.o 37 (.ext 36 0),.o 38 (.ext 36 1),.e (.st 3 true 6 37),.m 7 38] [1,2,3,26,32,33,34,35,36,37,38] .ret)))
def d31:Fn:={ real:=31,np:=3,nt:=39,res:=[.cell 6 3 true,.t 7],body:=c31 }
def c32_0:C:=
 .seq (.q [.m 30 9,.m 31 8,.o 32 (.len false 31),.o 33 (.n .lss 30 32)] [30,31,32] (.cond 33 .skip (.exit 0))) (.seq (.blk 1 (.q [.m 36 0,.m 37 8,.m 38 9,.o 39 (.ia 2 37 38),.o 40 (.ld 2 true 39),.o 41 (.call 15 true [36,40]),.o 42 (.n .lss 41 (.k 0))] [33,36,37,38,39,40,41] (.cond 42 (.q [.o 43 (.bld [.sl 2 true [] .ro,.sl 3 true [] .ro,.i .i64 0] []),.e (.st 3 true 6 43),.m 7 (.k 4)] [0,1,2,8,9,42,43] .ret) .skip))) (.reg [.m 34 9,.o 35 (.n .add 34 (.k 1)),.m 9 35] [34,35,42]))
def c32_r0:C:=
 .q [.m 45 0,.m 46 1,.m 47 2,.o 48 (.call 70 true [45,46,47]),.m 44 48,.o 49 (.ext 44 0),.o 50 (.ext 44 1),.m 10 49,.m 11 50] [1,2,8,9,33,44,45,46,47,48,49,50] (.seq (.q [.m 51 11,.o 52 (.un .not 51)] [11,51] (.cond 52 (.q [.o 53 (.bld [.sl 2 true [] .ro,.sl 3 true [] .ro,.i .i64 0] []),.e (.st 3 true 6 53),.m 7 (.k 6)] [0,10,52,53] .ret) .skip)) (.q [.m 54 0,.m 55 10,.o 56 (.call 18 true [54,55]),.e (.st 3 true 6 56),.m 7 (.k 0)] [0,10,52,54,55,56] .ret))
def c32:C:=
 (.q [.o 6 (.alloc [.sl 2 true [] .ro,.sl 3 true [] .ro,.i .i64 0]),.m 7 (.k 0)] [7] (.seq (.q [.m 12 0,.o 13 (.call 16 true [12]),.o 14 (.un .not 13),.m 15 14,.h 16 15 (.mv 1),.h 17 15 (.call 67 true [16]),.h 18 15 (.un .not 17),.o 19 (.pick 15 (.c (.b true)) 18),.m 20 19,.h 21 20 (.mv 2),.h 22 20 (.n .lss 21 (.k 0)),.o 23 (.pick 20 (.c (.b true)) 22)] [12,13,14,15,16,17,18,19,20,21,22] (.cond 23 (.q [.o 24 (.bld [.sl 2 true [] .ro,.sl 3 true [] .ro,.i .i64 0] []),.e (.st 3 true 6 24),.m 7 (.k 1)] [0,1,2,23,24] .ret) .skip)) (.seq (.q [.m 25 1,.o 26 (.call 68 true [25])] [23,25] (.cond 26 (.q [.o 27 (.bld [.sl 2 true [] .ro,.sl 3 true [] .ro,.i .i64 0] []),.e (.st 3 true 6 27),.m 7 (.k 13)] [0,1,2,26,27] .ret) .skip)) (.q [.m 28 1,.o 29 (.call 69 true [28]),.m 8 29] [26,28,29] (.seq (.q [.m 9 (.k 0)] [] (.blk 0 (.loop [] c32_0))) c32_r0)))))
def d32:Fn:={ real:=32,np:=3,nt:=57,res:=[.cell 6 3 true,.t 7],body:=c32 }
def c33:C:=
 (.q [.o 1 (.box 3 true 0),.m 2 (.c (.b false))] [0,2] (.seq (.q [.o 4 (.fa 0 1),.o 5 (.ld 1 false 4),.o 6 (.call 48 true [5]),.o 7 (.un .not 6),.m 8 7,.h 9 8 (.fa 1 1),.h 10 8 (.ld 1 false 9),.h 11 8 (.len false 10),.h 12 8 (.n .gtr 11 (.k 4096)),.o 13 (.pick 8 (.c (.b true)) 12),.m 14 13,.h 15 14 (.ld 3 true 1),.h 16 14 (.call 71 true [15]),.h 17 14 (.un .not 16),.o 18 (.pick 14 (.c (.b true)) 17)] [4,5,6,7,8,9,10,11,12,13,14,15,16,17] (.cond 18 (.q [.m 2 (.c (.b false))] [1,18] .ret) .skip)) (.q [.o 19 (.fa 0 1),.o 20 (.ld 1 false 19),.o 21 (.fa 1 1),.o 22 (.ld 1 false 21),.o 23 (.fa 2 1),.o 24 (.ld 1 false 23),.o 25 (.call 72 true [20,22,24]),.o 3 (.alloc [.sl 2 true [] .ro,.sl 3 true [] .ro,.i .i64 0]),.e (.st 3 true 3 25)] [18,19,20,21,22,23,24,25] (.q [.o 26 (.fa 2 3),.o 27 (.ld 1 false 26),.o 28 (.fa 2 1),.o 29 (.ld 1 false 28),.o 30 (.n .eql 27 29),.m 31 30,.g 32 31 (.fa 1 3),.g 33 31 (.ld 1 false 32),.g 34 31 (.fa 1 1),.g 35 31 (.ld 1 false 34),.g 36 31 (.call 73 true [33,35]),.o 37 (.pick 31 36 (.c (.b false))),.m 2 37] [1,3,26,27,28,29,30,31,32,33,34,35,36,37] .ret))))
def d33:Fn:={ real:=33,np:=1,nt:=38,res:=[.t 2],body:=c33 }
def c35_0:C:=
 .q [.o 22 (.n .lss 21 20)] [] (.seq (.cond 22 .skip (.exit 0)) (.seq (.blk 1 (.q [.o 23 (.ia 3 19 21),.o 24 (.ld 3 true 23),.o 6 (.alloc [.i .i64 0,.i .i64 0,.i .i64 0]),.e (.st 3 true 6 24)] [22,23,24] (.seq (.dreg [(0,.m 26 4),(1,.o 27 (.fa 1 6)),(2,.o 28 (.ld 1 false 27)),(3,.o 29 (.ia 1 26 28)),(4,.o 30 (.ld 1 false 29)),(5,.o 31 (.ld 3 true 1)),(6,.o 32 (.fa 1 6)),(7,.o 33 (.ld 1 false 32)),(8,.o 34 (.call 77 true [31,33])),(9,.o 35 (.fa 0 6)),(10,.o 36 (.ld 1 false 35)),(11,.o 37 (.n .sub 34 36)),(12,.o 38 (.n .sub 37 (.k 1))),(13,.o 39 (.call 76 true [30,38])),(14,.m 25 39),(15,.o 40 (.ext 25 0)),(16,.o 41 (.ext 25 1)),(17,.m 7 40),(18,.m 8 41)] [8,25,26,27,28,29,30,31,32,33,34,35,36,37,38,39,40,41]) (.seq (.dreg [(0,.m 43 4),(1,.o 44 (.fa 2 6)),(2,.o 45 (.ld 1 false 44)),(3,.o 46 (.ia 1 43 45)),(4,.o 47 (.ld 1 false 46)),(5,.o 48 (.ld 3 true 1)),(6,.o 49 (.fa 2 6)),(7,.o 50 (.ld 1 false 49)),(8,.o 51 (.call 77 true [48,50])),(9,.o 52 (.fa 0 6)),(10,.o 53 (.ld 1 false 52)),(11,.o 54 (.n .sub 51 53)),(12,.o 55 (.n .sub 54 (.k 1))),(13,.o 56 (.call 76 true [47,55])),(14,.m 42 56),(15,.o 57 (.ext 42 0)),(16,.o 58 (.ext 42 1)),(17,.m 9 57),(18,.m 10 58)] [6,10,42,43,44,45,46,47,48,49,50,51,52,53,54,55,56,57,58]) (.q [.m 60 7,.m 61 9,.o 62 (.call 78 true [60,61]),.m 59 62,.o 63 (.ext 59 0),.o 64 (.ext 59 1),.m 11 63,.m 12 64] [7,9,12,59,60,61,62,63,64] (.reg [.m 65 4,.m 66 11,.o 67 (.bsl 1 false false [66]),.o 68 (.app 1 false 65 67),.m 4 68] [11,65,66,67,68])))))) (.reg [.o 69 (.n .add 21 (.k 1)),.m 21 69] [69])))
def c35_r0:C:=
 .seq (.dreg [(0,.m 70 4),(1,.o 71 (.fa 2 1)),(2,.o 72 (.ld 1 false 71)),(3,.o 73 (.ia 1 70 72)),(4,.o 74 (.ld 1 false 73)),(5,.o 75 (.ld 3 true 1)),(6,.o 76 (.fa 2 1)),(7,.o 77 (.ld 1 false 76)),(8,.o 78 (.call 77 true [75,77])),(9,.o 79 (.call 76 true [74,78])),(10,.o 80 (.ext 79 0)),(11,.o 81 (.ext 79 1)),(12,.m 2 80),(13,.m 3 81)] [1,4,19,20,21,22,70,71,72,73,74,75,76,77,78,79,80,81]) .ret
def c35:C:=
 (.q [.o 1 (.box 3 true 0),.m 2 (.c (.sl 1 true [] .ro)),.m 3 (.k 0)] [0,2,3] (.seq (.q [.o 13 (.ld 3 true 1),.o 14 (.call 33 true [13]),.o 15 (.un .not 14)] [13,14] (.cond 15 (.q [.m 2 (.c (.sl 1 true [] .ro)),.m 3 (.k 1)] [1,15] .ret) .skip)) (.q [.o 16 (.call 75 true [.c (.i .u64 1)]),.o 17 (.bsl 1 false true [.c (.sl 1 true [] .ro),16]),.m 4 17] [15,16,17] (.seq (.q [.o 18 (.fa 1 1),.o 19 (.ld 1 false 18),.o 20 (.len false 19),.m 21 (.k 0)] [18] (.blk 0 (.loop [] c35_0))) c35_r0))))
def d35:Fn:={ real:=35,np:=1,nt:=82,res:=[.t 2,.t 3],body:=c35 }
def c44_0:C:=
 .seq (.q [.m 40 9,.m 41 1,.m 42 7,.o 43 (.ia 2 41 42),.o 44 (.fa 1 43),.o 45 (.ld 1 false 44),.o 46 (.len false 45),.o 47 (.n .lss 40 46)] [40,41,42,43,44,45,46] (.cond 47 .skip (.exit 4))) (.seq (.blk 5 (.dreg [(0,.o 50 (.fa 1 8)),(1,.o 51 (.ld 1 false 50)),(2,.m 52 1),(3,.m 53 7),(4,.o 54 (.ia 2 52 53)),(5,.o 55 (.fa 1 54)),(6,.o 56 (.ld 1 false 55)),(7,.m 57 9),(8,.o 58 (.ia 11 56 57)),(9,.o 59 (.ld 11 true 58)),(10,.o 60 (.call 84 true [51,59])),(11,.o 61 (.fa 1 8)),(12,.e (.st 1 false 61 60))] [47,50,51,52,53,54,55,56,57,58,59,60,61])) (.reg [.m 48 9,.o 49 (.n .add 48 (.k 1)),.m 9 49] [48,49]))
def c44_r0:C:=
 .reg [.m 62 5,.o 63 (.ld 2 true 8),.o 64 (.call 85 true [62,63]),.m 5 64] [8,9,47,62,63,64]
def c44_r1:C:=
 .reg [.m 21 7,.o 22 (.n .add 21 (.k 1)),.m 7 22] [21,22]
def c44_1:C:=
 .seq (.q [.m 17 7,.m 18 1,.o 19 (.len false 18),.o 20 (.n .lss 17 19)] [17,18,19] (.cond 20 .skip (.exit 2))) (.seq (.blk 3 (.seq (.dreg [(0,.m 23 0),(1,.m 24 6),(2,.o 25 (.ia 2 23 24)),(3,.o 26 (.fa 0 25)),(4,.o 27 (.ld 1 false 26)),(5,.m 28 1),(6,.m 29 7),(7,.o 30 (.ia 2 28 29)),(8,.o 31 (.fa 0 30)),(9,.o 32 (.ld 1 false 31)),(10,.o 33 (.call 83 true [27,32])),(11,.m 34 0),(12,.m 35 6),(13,.o 36 (.ia 2 34 35)),(14,.o 37 (.fa 1 36)),(15,.o 38 (.ld 1 false 37)),(16,.o 39 (.bld [.i .i64 0,.sl 11 true [] .ro] [(0,1,false,33),(1,1,false,38)])),(17,.o 8 (.alloc [.i .i64 0,.sl 11 true [] .ro])),(4,.ck 27 (.ld 1 false 26)),(9,.ck 32 (.ld 1 false 31)),(15,.ck 38 (.ld 1 false 37)),(18,.e (.st 2 true 8 39))] [20,23,24,25,26,27,28,29,30,31,32,33,34,35,36,37,38,39]) (.seq (.q [.m 9 (.k 0)] [] (.blk 4 (.loop [] c44_0))) c44_r0))) c44_r1)
def c44_r2:C:=
 .reg [.m 15 6,.o 16 (.n .add 15 (.k 1)),.m 6 16] [7,15,16,20]
def c44_2:C:=
 .seq (.q [.m 11 6,.m 12 0,.o 13 (.len false 12),.o 14 (.n .lss 11 13)] [11,12,13] (.cond 14 .skip (.exit 0))) (.seq (.blk 1 (.q [.m 7 (.k 0)] [14] (.blk 2 (.loop [] c44_1)))) c44_r2)
def c44_r3:C:=
 .q [.m 65 5,.m 4 65] [0,1,5,6,14,65] .ret
def c44:C:=
 (.q [.m 4 (.c (.sl 2 true [] .ro))] [4] (.q [.o 10 (.bsl 2 true true []),.m 5 10] [10] (.seq (.q [.m 6 (.k 0)] [] (.blk 0 (.loop [] c44_2))) c44_r3)))
def d44:Fn:={ real:=44,np:=2,nt:=66,res:=[.t 4],body:=c44 }
def c45:C:=
 (.q [.o 1 (.box 2 true 0),.m 2 (.c (.sl 2 true [] .ro))] [0,2] (.seq (.q [.o 3 (.fa 0 1),.o 4 (.ld 1 false 3),.o 5 (.n .lss 4 (.k 1)),.m 6 5,.h 7 6 (.fa 1 1),.h 8 6 (.ld 1 false 7),.h 9 6 (.n .lss 8 (.k 1)),.o 10 (.pick 6 (.c (.b true)) 9)] [3,4,5,6,7,8,9] (.cond 10 (.q [.m 2 (.c (.sl 2 true [] .ro))] [1,10] .ret) .skip)) (.q [.o 11 (.ld 2 true 1),.o 12 (.bld [.i .i64 0,.i .i64 0,.i .i64 0,.sl 1 true [] .ro,.i .i64 0,.sl 4 true [] .ro,.i .i64 0,.i .i64 0,.i .i64 0,.s []] [(1,2,true,11)]),.o 13 (.call 86 true [12]),.m 2 13] [1,10,11,12,13] .ret)))
def d45:Fn:={ real:=45,np:=1,nt:=14,res:=[.t 2],body:=c45 }
def c46:C:=
 (.q [.m 0 (.c (.sl 2 true [] .ro))] [0] (.q [.o 1 (.bld [.i .i64 0,.i .i64 0] [(0,1,false,.k 1),(1,1,false,.k 1)]),.o 2 (.bld [.i .i64 0,.i .i64 0] [(0,1,false,.k 1),(1,1,false,.k 2)]),.o 3 (.bsl 2 true false [1,2]),.m 0 3] [1,2,3] .ret))
def d46:Fn:={ real:=46,np:=0,nt:=4,res:=[.t 0],body:=c46 }
def c47_0:C:=
 .seq (.q [.m 9 0,.o 10 (.len false 9),.o 11 (.n .gtr 10 (.k 0))] [9,10] (.cond 11 .skip (.exit 0))) (.blk 1 (.q [.m 13 0,.o 14 (.call 88 true [13,.c (.i .u32 1000000000)]),.m 12 14,.o 15 (.ext 12 0),.o 16 (.ext 12 1),.m 4 15,.m 5 16] [0,11,12,13,14,15,16] (.q [.m 17 5,.o 18 (.conv .u64 17),.o 19 (.call 89 true [18,.k 10]),.m 6 19] [5,17,18,19] (.seq (.q [.m 20 4,.o 21 (.len false 20),.o 22 (.n .gtr 21 (.k 0))] [20,21] (.cond 22 (.reg [.m 23 6,.o 24 (.len true 23),.o 25 (.n .sub (.k 9) 24),.o 26 (.call 90 true [.c (.s [48]),25]),.m 27 6,.o 28 (.bin .add .str 26 27),.m 6 28] [22,23,24,25,26,27,28]) .skip)) (.reg [.m 29 6,.m 30 3,.o 31 (.bin .add .str 29 30),.m 32 4,.m 3 31,.m 0 32] [4,6,22,29,30,31,32])))))
def c47_r0:C:=
 .q [.m 33 3,.o 34 (.bsl 1 false false [33,.c (.s [48])]),.o 35 (.call 91 true [34]),.m 2 35] [0,3,11,33,34,35] .ret
def c47:C:=
 (.q [.m 2 (.c (.s []))] [2] (.q [.m 7 0,.o 8 (.call 87 true [7]),.m 0 8] [7,8] (.q [.m 3 (.c (.s []))] [] (.seq (.blk 0 (.loop [] c47_0)) c47_r0))))
def d47:Fn:={ real:=47,np:=1,nt:=36,res:=[.t 2],body:=c47 }
def c48_0:C:=
 .q [.o 10 (.n .lss 9 8)] [] (.seq (.cond 10 .skip (.exit 0)) (.seq (.blk 1 (.q [.o 11 (.ia 2 7 9),.o 12 (.ld 2 true 11),.o 5 (.alloc [.i .i64 0,.i .i64 0]),.e (.st 2 true 5 12)] [10,11,12] (.seq (.q [.o 13 (.ld 2 true 5),.o 14 (.call 92 true [13]),.o 15 (.un .not 14),.m 16 15,.h 17 16 (.mv 3),.h 18 16 (.ld 2 true 5),.h 19 16 (.lk (.agg [.i,.i]) false (.b false) 17 18),.o 20 (.pick 16 (.c (.b true)) 19)] [13,14,15,16,17,18,19] (.cond 20 (.q [.m 2 (.c (.b false))] [0,3,5,7,8,9,20] .ret) .skip)) (.reg [.m 21 3,.o 22 (.ld 2 true 5),.e (.mu (.agg [.i,.i]) 21 22 (.c (.b true)))] [5,20,21,22])))) (.reg [.o 23 (.n .add 9 (.k 1)),.m 9 23] [23])))
def c48_r0:C:=
 .q [.m 24 0,.o 25 (.len false 24),.o 26 (.n .leq 25 (.k 4096)),.m 2 26] [0,3,7,8,9,10,24,25,26] .ret
def c48:C:=
 (.q [.m 2 (.c (.b false))] [2] (.q [.o 6 (.mkmap),.m 3 6] [6] (.seq (.q [.m 7 0,.o 8 (.len false 7),.m 9 (.k 0)] [] (.blk 0 (.loop [] c48_0))) c48_r0)))
def d48:Fn:={ real:=48,np:=1,nt:=27,res:=[.t 2],body:=c48 }
def c49:C:=
 (.q [.m 2 (.c (.sl 2 true [] .ro))] [2] (.seq (.q [.m 3 0,.o 4 (.bin .eql .sl 3 (.c (.sl 2 true [] .ro)))] [3] (.cond 4 (.q [.m 2 (.c (.sl 2 true [] .ro))] [0,4] .ret) .skip)) (.q [.o 5 (.bsl 2 true true []),.m 6 0,.o 7 (.app 2 false 5 6),.m 2 7] [0,4,5,6,7] .ret)))
def d49:Fn:={ real:=49,np:=1,nt:=8,res:=[.t 2],body:=c49 }
def c50_0:C:=
 .q [.o 9 (.n .lss 8 7)] [] (.seq (.cond 9 .skip (.exit 0)) (.seq (.blk 1 (.q [.m 10 8,.m 5 10] [9,10] (.seq (.dreg [(0,.o 11 (.ld 2 true 3)),(1,.m 12 0),(2,.m 13 5),(3,.o 14 (.ia 2 12 13)),(4,.o 15 (.ld 2 true 14)),(5,.o 16 (.bin .eql (.agg [.i,.i]) 11 15))] [11,12,13,14,15]) (.cond 16 (.q [.m 17 5,.m 4 17] [0,3,5,7,8,16,17] .ret) .skip)))) (.reg [.o 18 (.n .add 8 (.k 1)),.m 8 18] [5,16,18])))
def c50_r0:C:=
 .q [.o 4 (.mv (.k (-1)))] [0,3,7,8,9] .ret
def c50:C:=
 (.q [.o 3 (.box 2 true 1),.m 4 (.k 0)] [1,4] (.seq (.q [.m 6 0,.o 7 (.len false 6),.m 8 (.k 0)] [6] (.blk 0 (.loop [] c50_0))) c50_r0))
def d50:Fn:={ real:=50,np:=2,nt:=19,res:=[.t 4],body:=c50 }
def c51:C:=
 (.q [.o 1 (.box 2 true 0),.m 2 (.c (.b false))] [0,2] (.q [.o 3 (.fa 0 1),.o 4 (.ld 1 false 3),.o 5 (.n .geq 4 (.k 1)),.m 6 5,.g 7 6 (.fa 1 1),.g 8 6 (.ld 1 false 7),.g 9 6 (.n .geq 8 (.k 1)),.o 10 (.pick 6 9 (.c (.b false))),.m 2 10] [1,3,4,5,6,7,8,9,10] .ret))
def d51:Fn:={ real:=51,np:=1,nt:=11,res:=[.t 2],body:=c51 }
def c52_0:C:=
 .seq (.q [.m 11 5,.m 12 0,.o 13 (.len false 12),.o 14 (.n .lss 11 13)] [11,12,13] (.cond 14 .skip (.exit 0))) (.seq (.blk 1 (.seq (.dreg [(0,.m 17 0),(1,.m 18 5),(2,.o 19 (.ia 2 17 18)),(3,.o 20 (.ld 2 true 19)),(4,.m 21 1),(5,.m 22 5),(6,.o 23 (.ia 2 21 22)),(7,.o 24 (.ld 2 true 23)),(8,.o 25 (.bin .neq (.agg [.i,.i]) 20 24))] [14,17,18,19,20,21,22,23,24]) (.cond 25 (.q [.m 4 (.c (.b false))] [0,1,5,25] .ret) .skip))) (.reg [.m 15 5,.o 16 (.n .add 15 (.k 1)),.m 5 16] [15,16,25]))
def c52_r0:C:=
 .q [.m 4 (.c (.b true))] [0,1,5,14] .ret
def c52:C:=
 (.q [.m 4 (.c (.b false))] [4] (.seq (.q [.m 6 0,.o 7 (.len false 6),.m 8 1,.o 9 (.len false 8),.o 10 (.n .neq 7 9)] [6,7,8,9] (.cond 10 (.q [.m 4 (.c (.b false))] [0,1,10] .ret) .skip)) (.seq (.q [.m 5 (.k 0)] [10] (.blk 0 (.loop [] c52_0))) c52_r0)))
def d52:Fn:={ real:=52,np:=2,nt:=26,res:=[.t 4],body:=c52 }
def c53_0:C:=
 .seq (.q [.m 59 15,.m 60 4,.o 61 (.len false 60),.o 62 (.n .lss 59 61)] [59,60,61] (.cond 62 .skip (.exit 0))) (.seq (.blk 1 (.seq (.dreg [(0,.m 65 4),(1,.m 66 15),(2,.o 67 (.ia 3 65 66)),(3,.o 68 (.ld 3 true 67)),(4,.o 69 (.ld 3 true 14)),(5,.o 70 (.bin .eql (.agg [.i,.i,.i]) 68 69))] [62,65,66,67,68,69]) (.cond 70 (.q [.m 71 15,.o 72 (.n .add 71 (.k 2)),.m 73 4,.m 10 72,.m 11 73] [4,14,15,70,71,72,73] .ret) .skip))) (.reg [.m 63 15,.o 64 (.n .add 63 (.k 1)),.m 15 64] [63,64,70]))
def c53_r0:C:=
 .q [.m 74 4,.o 75 (.len false 74),.o 76 (.n .add 75 (.k 2)),.m 77 4,.o 78 (.ld 3 true 14),.o 79 (.bsl 3 true false [78]),.o 80 (.app 3 false 77 79),.m 10 76,.m 11 80] [4,14,15,62,74,75,76,77,78,79,80] .ret
def c53:C:=
 (.q [.m 10 (.k 0),.m 11 (.c (.sl 3 true [] .ro))] [10,11] (.seq (.q [.m 16 0,.m 17 1,.m 18 2,.m 19 3,.o 20 (.call 93 true [16,17,18,19])] [16,17,18,19] (.cond 20 (.seq (.q [.m 21 0,.m 22 3,.o 23 (.ia 1 21 22),.o 24 (.ld 1 false 23)] [0,1,2,3,20,21,22,23] (.cond 24 (.q [.m 25 4,.m 10 (.k 1),.m 11 25] [4,24,25] .ret) .skip)) (.q [.m 26 4,.m 10 (.k 0),.m 11 26] [4,24,26] .ret)) .skip)) (.q [.m 28 0,.m 29 1,.m 30 2,.o 31 (.n .add 30 (.k 1)),.m 32 3,.m 33 4,.o 34 (.call 53 false [28,29,31,32,33]),.m 27 34,.o 35 (.ext 27 0),.o 36 (.ext 27 1),.m 12 35,.m 4 36] [20,27,28,29,30,31,32,33,34,35,36] (.q [.m 38 0,.m 39 1,.m 40 2,.o 41 (.n .add 40 (.k 1)),.m 42 3,.m 43 2,.o 44 (.n .shl (.k 1) 43),.o 45 (.n .add 42 44),.m 46 4,.o 47 (.call 53 false [38,39,41,45,46]),.m 37 47,.o 48 (.ext 37 0),.o 49 (.ext 37 1),.m 13 48,.m 4 49] [0,1,3,37,38,39,40,41,42,43,44,45,46,47,48,49] (.seq (.q [.m 50 12,.m 51 13,.o 52 (.n .eql 50 51)] [50,51] (.cond 52 (.q [.m 53 12,.m 54 4,.m 10 53,.m 11 54] [2,4,12,13,52,53,54] .ret) .skip)) (.q [.m 55 2,.m 56 12,.m 57 13,.o 58 (.bld [.i .i64 0,.i .i64 0,.i .i64 0] [(0,1,false,55),(1,1,false,56),(2,1,false,57)]),.o 14 (.alloc [.i .i64 0,.i .i64 0,.i .i64 0]),.e (.st 3 true 14 58)] [2,12,13,52,55,56,57,58] (.seq (.q [.m 15 (.k 0)] [] (.blk 0 (.loop [] c53_0))) c53_r0)))))))
def d53:Fn:={ real:=53,np:=5,nt:=81,res:=[.t 10,.t 11],body:=c53 }
def c54:C:=
 (.q [.o 3 (.box 3 true 0),.o 4 (.box 3 true 1),.o 5 (.box 1 false 2),.o 6 (.alloc [.sl 2 true [] .ro,.sl 3 true [] .ro,.i .i64 0]),.m 7 (.k 0)] [0,1,2,7] (.seq (.q [.o 13 (.ld 3 true 3),.o 14 (.call 33 true [13]),.o 15 (.un .not 14),.m 16 15,.h 17 16 (.ld 3 true 4),.h 18 16 (.call 33 true [17]),.h 19 16 (.un .not 18),.o 20 (.pick 16 (.c (.b true)) 19),.m 21 20,.h 22 21 (.fa 0 3),.h 23 21 (.ld 1 false 22),.h 24 21 (.fa 0 4),.h 25 21 (.ld 1 false 24),.h 26 21 (.call 74 true [23,25]),.h 27 21 (.un .not 26),.o 28 (.pick 21 (.c (.b true)) 27)] [13,14,15,16,17,18,19,20,21,22,23,24,25,26,27] (.cond 28 (.q [.o 29 (.bld [.sl 2 true [] .ro,.sl 3 true [] .ro,.i .i64 0] []),.e (.st 3 true 6 29),.m 7 (.k 1)] [3,4,5,28,29] .ret) .skip)) (.q [.o 8 (.alloc [.sl 3 true [] .ro,.nilm])] [28] (.q [.o 30 (.mkmap),.o 9 (.alloc [.nilm]),.e (.st 1 false 9 30)] [30] (.q [.o 10 (.alloc [.top])] [] (.q [.o 31 (.mkfn 94 [5,9,3,4,10,8]),.e (.st 1 false 10 31)] [5,9,31] (.q [.o 32 (.ld 1 false 10),.o 33 (.fa 2 3),.o 34 (.ld 1 false 33),.o 35 (.fa 2 4),.o 36 (.ld 1 false 35),.o 37 (.calld 32 false [34,36]),.m 11 37] [4,10,32,33,34,35,36,37] (.q [.o 38 (.fa 0 3),.o 39 (.ld 1 false 38),.o 40 (.fa 0 8),.o 41 (.ld 1 false 40),.m 42 11,.o 43 (.call 72 true [39,41,42]),.o 12 (.alloc [.sl 2 true [] .ro,.sl 3 true [] .ro,.i .i64 0]),.e (.st 3 true 12 43)] [3,8,11,38,39,40,41,42,43] (.seq (.q [.o 44 (.fa 1 12),.o 45 (.ld 1 false 44),.o 46 (.len false 45),.o 47 (.n .gtr 46 (.k 4096))] [44,45,46] (.cond 47 (.q [.o 48 (.bld [.sl 2 true [] .ro,.sl 3 true [] .ro,.i .i64 0] []),.e (.st 3 true 6 48),.m 7 (.k 6)] [12,47,48] .ret) .skip)) (.q [.o 49 (.ld 3 true 12),.e (.st 3 true 6 49),.m 7 (.k 0)] [12,47,49] .ret))))))))))
def d54:Fn:={ real:=54,np:=3,nt:=50,res:=[.cell 6 3 true,.t 7],body:=c54 }
def c55:C:=
 (.q [.m 2 (.k 0)] [2] (.seq (.q [.m 3 0,.o 4 (.n .lss 3 (.k 2))] [3] (.cond 4 (.q [.m 5 0,.o 6 (.n .sub (.k 1) 5),.m 2 6] [0,4,5,6] .ret) .skip)) (.q [.m 7 0,.m 2 7] [0,4,7] .ret)))
def d55:Fn:={ real:=55,np:=1,nt:=8,res:=[.t 2],body:=c55 }
def c59_0:C:=
 .seq (.q [.m 100 12,.o 101 (.fa 5 10),.o 102 (.ld 1 false 101),.o 103 (.len false 102),.o 104 (.n .lss 100 103),.m 105 104,.g 106 105 (.mv 7),.g 107 105 (.mv 1),.g 108 105 (.n .leq 106 107),.o 109 (.pick 105 108 (.c (.b false)))] [100,101,102,103,104,105,106,107,108] (.cond 109 .skip (.exit 6))) (.seq (.blk 7 (.dreg [(0,.m 112 7),(1,.o 113 (.fa 5 10)),(2,.o 114 (.ld 1 false 113)),(3,.m 115 12),(4,.o 116 (.ia 4 114 115)),(5,.o 117 (.fa 0 116)),(6,.o 118 (.fa 2 117)),(7,.o 119 (.ld 1 false 118)),(8,.o 120 (.len true 119)),(9,.o 121 (.n .add 112 120)),(10,.o 122 (.fa 5 10)),(11,.o 123 (.ld 1 false 122)),(12,.m 124 12),(13,.o 125 (.ia 4 123 124)),(14,.o 126 (.fa 3 125)),(15,.o 127 (.ld 1 false 126)),(16,.m 128 1),(17,.m 129 7),(18,.o 130 (.n .sub 128 129)),(19,.m 131 2),(20,.o 132 (.n .sub 131 (.k 1))),(21,.o 133 (.call 59 true [127,130,132])),(22,.o 134 (.n .add 121 133)),(23,.m 7 134)] [109,112,113,114,115,116,117,118,119,120,121,122,123,124,125,126,127,128,129,130,131,132,133,134])) (.reg [.m 110 12,.o 111 (.n .add 110 (.k 1)),.m 12 111] [110,111]))
def c59_1:C:=
 .seq (.q [.m 75 11,.o 76 (.fa 3 10),.o 77 (.ld 1 false 76),.o 78 (.len false 77),.o 79 (.n .lss 75 78),.m 80 79,.g 81 80 (.mv 7),.g 82 80 (.mv 1),.g 83 80 (.n .leq 81 82),.o 84 (.pick 80 83 (.c (.b false)))] [75,76,77,78,79,80,81,82,83] (.cond 84 .skip (.exit 4))) (.seq (.blk 5 (.reg [.m 87 7,.o 88 (.fa 3 10),.o 89 (.ld 1 false 88),.m 90 11,.o 91 (.ia 1 89 90),.o 92 (.ld 1 false 91),.m 93 1,.m 94 7,.o 95 (.n .sub 93 94),.m 96 2,.o 97 (.n .sub 96 (.k 1)),.o 98 (.call 59 true [92,95,97]),.o 99 (.n .add 87 98),.m 7 99] [84,87,88,89,90,91,92,93,94,95,96,97,98,99])) (.reg [.m 85 11,.o 86 (.n .add 85 (.k 1)),.m 11 86] [85,86]))
def c59_r0:C:=
 .q [.m 12 (.k 0)] [11,84] (.blk 6 (.loop [] c59_0))
def c59_r1:C:=
 .reg [.m 50 9,.o 51 (.n .add 50 (.k 1)),.m 9 51] [10,12,50,51,109]
def c59_2:C:=
 .seq (.q [.m 37 9,.m 38 0,.m 39 8,.o 40 (.ia 2 38 39),.o 41 (.fa 1 40),.o 42 (.ld 1 false 41),.o 43 (.len false 42),.o 44 (.n .lss 37 43),.m 45 44,.g 46 45 (.mv 7),.g 47 45 (.mv 1),.g 48 45 (.n .leq 46 47),.o 49 (.pick 45 48 (.c (.b false)))] [37,38,39,40,41,42,43,44,45,46,47,48] (.cond 49 .skip (.exit 2))) (.seq (.blk 3 (.q [.m 52 0,.m 53 8,.o 54 (.ia 2 52 53),.o 55 (.fa 1 54),.o 56 (.ld 1 false 55),.m 57 9,.o 58 (.ia 11 56 57),.o 59 (.fa 0 58),.o 60 (.ld 10 true 59),.o 10 (.alloc [.i .i64 0,.i .i64 0,.i .i64 0,.sl 1 true [] .ro,.i .i64 0,.sl 4 true [] .ro,.i .i64 0,.i .i64 0,.i .i64 0,.s []]),.e (.st 10 true 10 60)] [49,52,53,54,55,56,57,58,59,60] (.q [.m 61 7,.o 62 (.fa 5 10),.o 63 (.ld 1 false 62),.o 64 (.len false 63),.o 65 (.n .add 61 64),.o 66 (.fa 3 10),.o 67 (.ld 1 false 66),.o 68 (.len false 67),.o 69 (.n .add 65 68),.o 70 (.fa 7 10),.o 71 (.fa 2 70),.o 72 (.ld 1 false 71),.o 73 (.len true 72),.o 74 (.n .add 69 73),.m 7 74] [61,62,63,64,65,66,67,68,69,70,71,72,73,74] (.seq (.q [.m 11 (.k 0)] [] (.blk 4 (.loop [] c59_1))) c59_r0)))) c59_r1)
def c59_r2:C:=
 .reg [.m 26 8,.o 27 (.n .add 26 (.k 1)),.m 8 27] [9,26,27,49]
def c59_3:C:=
 .seq (.q [.m 17 8,.m 18 0,.o 19 (.len false 18),.o 20 (.n .lss 17 19),.m 21 20,.g 22 21 (.mv 7),.g 23 21 (.mv 1),.g 24 21 (.n .leq 22 23),.o 25 (.pick 21 24 (.c (.b false)))] [17,18,19,20,21,22,23,24] (.cond 25 .skip (.exit 0))) (.seq (.blk 1 (.q [.m 28 7,.o 29 (.n .add 28 (.k 1)),.m 30 0,.m 31 8,.o 32 (.ia 2 30 31),.o 33 (.fa 1 32),.o 34 (.ld 1 false 33),.o 35 (.len false 34),.o 36 (.n .add 29 35),.m 7 36] [25,28,29,30,31,32,33,34,35,36] (.q [.m 9 (.k 0)] [] (.blk 2 (.loop [] c59_2))))) c59_r2)
def c59_r3:C:=
 .q [.m 135 7,.m 6 135] [0,1,2,7,8,25,135] .ret
def c59:C:=
 (.q [.m 6 (.k 0)] [6] (.q [.m 7 (.k 0)] [] (.seq (.q [.m 13 2,.o 14 (.n .eql 13 (.k 0))] [13] (.cond 14 (.q [.m 15 1,.o 16 (.n .add 15 (.k 1)),.m 6 16] [0,1,2,7,14,15,16] .ret) .skip)) (.seq (.q [.m 8 (.k 0)] [14] (.blk 0 (.loop [] c59_3))) c59_r3))))
def d59:Fn:={ real:=59,np:=3,nt:=136,res:=[.t 6],body:=c59 }
def c60_0:C:=
 .q [.o 43 (.n .lss 42 41)] [] (.seq (.cond 43 .skip (.exit 2)) (.seq (.blk 3 (.q [.m 44 42,.o 45 (.ia 11 40 42),.o 46 (.ld 11 true 45),.o 6 (.alloc [.i .i64 0,.i .i64 0,.i .i64 0,.sl 1 true [] .ro,.i .i64 0,.sl 4 true [] .ro,.i .i64 0,.i .i64 0,.i .i64 0,.s [],.i .i64 0]),.m 5 44,.e (.st 11 true 6 46)] [43,44,45,46] (.seq (.dreg [(0,.o 47 (.fa 10 6)),(1,.o 48 (.ld 1 false 47)),(2,.o 49 (.n .lss 48 (.k 1))),(3,.m 50 49),(4,.h 51 50 (.fa 0 6)),(5,.h 52 50 (.ld 10 true 51)),(6,.h 53 50 (.call 98 true [52])),(7,.h 54 50 (.mv 53)),(8,.g 55 54 (.fa 10 6)),(9,.g 56 54 (.ld 1 false 55)),(10,.g 57 54 (.n .neq 56 (.k 1))),(11,.h 58 50 (.pick 54 57 (.c (.b false)))),(12,.o 59 (.pick 50 (.c (.b true)) 58)),(13,.m 60 59),(14,.h 61 60 (.mv 5)),(15,.h 62 60 (.n .gtr 61 (.k 0))),(16,.h 63 60 (.mv 62)),(17,.g 64 63 (.fa 1 4)),(18,.g 65 63 (.ld 1 false 64)),(19,.g 66 63 (.mv 5)),(20,.g 67 63 (.n .sub 66 (.k 1))),(21,.g 68 63 (.ia 11 65 67)),(22,.g 69 63 (.fa 0 68)),(23,.g 70 63 (.ld 10 true 69)),(24,.g 71 63 (.fa 0 6)),(25,.g 72 63 (.ld 10 true 71)),(26,.g 73 63 (.call 99 true [70,72])),(27,.g 74 63 (.n .geq 73 (.k 0))),(28,.h 75 60 (.pick 63 74 (.c (.b false)))),(29,.o 76 (.pick 60 (.c (.b true)) 75)),(30,.m 77 76),(31,.h 78 77 (.fa 0 6)),(32,.h 79 77 (.ld 10 true 78)),(33,.h 80 77 (.call 100 true [79])),(34,.h 81 77 (.un .not 80)),(35,.o 82 (.pick 77 (.c (.b true)) 81))] [5,6,47,48,49,50,51,52,53,54,55,56,57,58,59,60,61,62,63,64,65,66,67,68,69,70,71,72,73,74,75,76,77,78,79,80,81]) (.cond 82 (.q [.m 2 (.c (.b false))] [0,4,10,11,12,40,41,42,82] .ret) .skip)))) (.reg [.o 83 (.n .add 42 (.k 1)),.m 42 83] [82,83])))
def c60_r0:C:=
 .reg [.o 84 (.n .add 12 (.k 1)),.m 12 84] [4,40,41,42,43,84]
def c60_1:C:=
 .q [.o 13 (.n .lss 12 11)] [] (.seq (.cond 13 .skip (.exit 0)) (.seq (.blk 1 (.q [.m 14 12,.o 15 (.ia 2 10 12),.o 16 (.ld 2 true 15),.o 4 (.alloc [.i .i64 0,.sl 11 true [] .ro]),.m 3 14,.e (.st 2 true 4 16)] [13,14,15,16] (.seq (.seq (.dreg [(0,.o 17 (.fa 0 4)),(1,.o 18 (.ld 1 false 17)),(2,.o 19 (.n .lss 18 (.k 1))),(3,.m 20 19),(4,.h 21 20 (.fa 0 4)),(5,.h 22 20 (.ld 1 false 21)),(6,.h 23 20 (.n .gtr 22 (.k 1152921504606846976))),(7,.o 24 (.pick 20 (.c (.b true)) 23)),(8,.m 25 24),(9,.h 26 25 (.mv 3)),(10,.h 27 25 (.n .gtr 26 (.k 0))),(11,.h 28 25 (.mv 27)),(12,.g 29 28 (.mv 0)),(13,.g 30 28 (.mv 3)),(14,.g 31 28 (.n .sub 30 (.k 1))),(15,.g 32 28 (.ia 2 29 31)),(16,.g 33 28 (.ld 2 true 32)),(17,.g 34 28 (.ld 2 true 4)),(18,.g 35 28 (.call 97 true [33,34])),(19,.g 36 28 (.n .geq 35 (.k 0))),(20,.h 37 25 (.pick 28 36 (.c (.b false)))),(21,.o 38 (.pick 25 (.c (.b true)) 37))] [3,17,18,19,20,21,22,23,24,25,26,27,28,29,30,31,32,33,34,35,36,37]) (.cond 38 (.q [.m 2 (.c (.b false))] [0,4,10,11,12,38] .ret) .skip)) (.q [.o 39 (.fa 1 4),.o 40 (.ld 1 false 39),.o 41 (.len false 40),.m 42 (.k 0)] [38,39] (.blk 2 (.loop [] c60_0)))))) c60_r0))
def c60_r1:C:=
 .q [.m 2 (.c (.b true))] [0,10,11,12,13] .ret
def c60:C:=
 (.q [.m 2 (.c (.b false))] [2] (.seq (.q [.m 7 0,.o 8 (.call 96 true [7]),.o 9 (.un .not 8)] [7,8] (.cond 9 (.q [.m 2 (.c (.b false))] [0,9] .ret) .skip)) (.seq (.q [.m 10 0,.o 11 (.len false 10),.m 12 (.k 0)] [9] (.blk 0 (.loop [] c60_1))) c60_r1)))
def d60:Fn:={ real:=60,np:=1,nt:=85,res:=[.t 2],body:=c60 }
def c61_0:C:=
 .q [.o 17 (.n .lss 16 15)] [] (.seq (.cond 17 .skip (.exit 2)) (.seq (.blk 3 (.q [.o 18 (.ia 11 14 16),.o 19 (.ld 11 true 18),.o 6 (.alloc [.i .i64 0,.i .i64 0,.i .i64 0,.sl 1 true [] .ro,.i .i64 0,.sl 4 true [] .ro,.i .i64 0,.i .i64 0,.i .i64 0,.s [],.i .i64 0]),.e (.st 11 true 6 19)] [17,18,19] (.q [.o 20 (.fa 0 6),.o 21 (.fa 0 20),.o 22 (.ld 1 false 21),.o 23 (.n .eql 22 (.k 4)),.m 24 23,.h 25 24 (.fa 0 6),.h 26 24 (.fa 3 25),.h 27 24 (.ld 1 false 26),.h 28 24 (.call 101 true [27,.c (.fn 61 [])]),.o 29 (.pick 24 (.c (.b true)) 28)] [6,20,21,22,23,24,25,26,27,28] (.cond 29 (.q [.m 2 (.c (.b true))] [7,8,9,14,15,16,29] .ret) .skip)))) (.reg [.o 30 (.n .add 16 (.k 1)),.m 16 30] [29,30])))
def c61_r0:C:=
 .reg [.o 31 (.n .add 9 (.k 1)),.m 9 31] [14,15,16,17,31]
def c61_1:C:=
 .q [.o 10 (.n .lss 9 8)] [] (.seq (.cond 10 .skip (.exit 0)) (.seq (.blk 1 (.q [.o 11 (.ia 2 7 9),.o 12 (.ld 2 true 11),.o 4 (.alloc [.i .i64 0,.sl 11 true [] .ro]),.e (.st 2 true 4 12)] [10,11,12] (.q [.o 13 (.fa 1 4),.o 14 (.ld 1 false 13),.o 15 (.len false 14),.m 16 (.k 0)] [4,13] (.blk 2 (.loop [] c61_0))))) c61_r0))
def c61_r1:C:=
 .q [.m 2 (.c (.b false))] [7,8,9,10] .ret
def c61:C:=
 (.q [.m 2 (.c (.b false))] [2] (.seq (.q [.m 7 0,.o 8 (.len false 7),.m 9 (.k 0)] [0] (.blk 0 (.loop [] c61_1))) c61_r1))
def d61:Fn:={ real:=61,np:=1,nt:=32,res:=[.t 2],body:=c61 }
def c62:C:=
 (.q [.m 4 (.c (.b false))] [4] (.q [.m 5 0,.m 6 1,.o 7 (.call 102 false [5,6]),.o 8 (.n .geq 7 (.k 0)),.m 4 8] [0,1,5,6,7,8] .ret))
def d62:Fn:={ real:=62,np:=2,nt:=9,res:=[.t 4],body:=c62 }
def c63:C:=
 (.q [.m 2 (.c (.sl 2 true [] .ro))] [2] (.q [.o 3 (.alloc [.sl 2 true [] .ro])] [] (.q [.m 4 0,.o 5 (.mkfn 104 [3]),.o 6 (.call 103 false [4,5])] [0,4,5,6] (.q [.o 7 (.ld 1 false 3),.o 8 (.call 81 true [7]),.m 2 8] [3,7,8] .ret))))
def d63:Fn:={ real:=63,np:=1,nt:=9,res:=[.t 2],body:=c63 }
def c64:C:=
 (.q [.o 2 (.box 2 true 0),.m 3 (.c (.b false))] [0,3] (.q [.o 4 (.ld 1 false 1),.o 5 (.ld 2 true 2),.o 6 (.call 65 true [4,5]),.o 7 (.un .not 6),.m 3 7] [1,2,4,5,6,7] .ret))
def d64:Fn:={ real:=64,np:=2,nt:=8,res:=[.t 3],body:=c64 }
def c65:C:=
 (.q [.o 3 (.box 2 true 1),.m 4 (.c (.b false))] [1,4] (.q [.m 5 0,.o 6 (.ld 2 true 3),.o 7 (.call 50 true [5,6]),.o 8 (.n .geq 7 (.k 0)),.m 4 8] [0,3,5,6,7,8] .ret))
def d65:Fn:={ real:=65,np:=2,nt:=9,res:=[.t 4],body:=c65 }
def c66_0:C:=
 .q [.o 17 (.n .lss 16 15)] [] (.seq (.cond 17 .skip (.exit 0)) (.seq (.blk 1 (.q [.o 18 (.ia 2 14 16),.o 19 (.ld 2 true 18),.o 8 (.alloc [.i .i64 0,.sl 11 true [] .ro]),.e (.st 2 true 8 19)] [17,18,19] (.q [.o 21 (.ld 2 true 2),.o 22 (.ld 2 true 8),.o 23 (.call 105 true [21,22]),.m 20 23,.o 24 (.ext 20 0),.o 25 (.ext 20 1),.o 9 (.alloc [.sl 2 true [] .ro,.sl 3 true [] .ro,.i .i64 0]),.e (.st 3 true 9 24),.m 10 25] [8,20,21,22,23,24,25] (.seq (.q [.m 26 10,.o 27 (.n .neq 26 (.k 0))] [26] (.cond 27 (.q [.o 28 (.bld [.sl 2 true [] .ro,.sl 3 true [] .ro,.i .i64 0] []),.m 29 10,.e (.st 3 true 4 28),.m 5 29] [2,6,9,10,14,15,16,27,28,29] .ret) .skip)) (.seq (.dreg [(0,.o 31 (.ld 2 true 2)),(1,.o 32 (.ld 3 true 6)),(2,.o 33 (.ld 3 true 9)),(3,.o 34 (.call 22 true [32,33])),(4,.o 35 (.ext 34 0)),(5,.o 36 (.ext 34 1)),(6,.o 37 (.call 106 true [31,35,36])),(7,.m 30 37),(8,.o 38 (.ext 30 0)),(9,.o 39 (.ext 30 1)),(10,.e (.st 3 true 6 38)),(11,.m 10 39)] [9,27,30,31,32,33,34,35,36,37,38,39]) (.q [.m 40 10,.o 41 (.n .neq 40 (.k 0))] [40] (.cond 41 (.q [.o 42 (.bld [.sl 2 true [] .ro,.sl 3 true [] .ro,.i .i64 0] []),.m 43 10,.e (.st 3 true 4 42),.m 5 43] [2,6,10,14,15,16,41,42,43] .ret) .skip))))))) (.reg [.o 44 (.n .add 16 (.k 1)),.m 16 44] [10,41,44])))
def c66_r0:C:=
 .q [.o 45 (.ld 3 true 6),.e (.st 3 true 4 45),.m 5 (.k 0)] [2,6,14,15,16,17,45] .ret
def c66:C:=
 (.q [.o 2 (.box 2 true 0),.o 4 (.alloc [.sl 2 true [] .ro,.sl 3 true [] .ro,.i .i64 0]),.m 5 (.k 0)] [0,5] (.q [.o 11 (.fa 0 2),.o 12 (.ld 1 false 11),.o 13 (.call 13 true [12,.c (.b false)]),.o 6 (.alloc [.sl 2 true [] .ro,.sl 3 true [] .ro,.i .i64 0]),.e (.st 3 true 6 13)] [11,12,13] (.seq (.q [.m 14 1,.o 15 (.len false 14),.m 16 (.k 0)] [1] (.blk 0 (.loop [] c66_0))) c66_r0)))
def d66:Fn:={ real:=66,np:=2,nt:=46,res:=[.cell 4 3 true,.t 5],body:=c66 }
def c67_0:C:=
 .seq (.q [.m 44 5,.o 45 (.fa 1 4),.o 46 (.ld 1 false 45),.o 47 (.len false 46),.o 48 (.n .lss 44 47)] [44,45,46,47] (.cond 48 .skip (.exit 2))) (.seq (.blk 3 (.q [.o 51 (.fa 1 4),.o 52 (.ld 1 false 51),.m 53 5,.o 54 (.ia 11 52 53),.o 55 (.ld 11 true 54),.o 6 (.alloc [.i .i64 0,.i .i64 0,.i .i64 0,.sl 1 true [] .ro,.i .i64 0,.sl 4 true [] .ro,.i .i64 0,.i .i64 0,.i .i64 0,.s [],.i .i64 0]),.e (.st 11 true 6 55)] [48,51,52,53,54,55] (.seq (.dreg [(0,.o 56 (.fa 10 6)),(1,.o 57 (.ld 1 false 56)),(2,.o 58 (.n .lss 57 (.k 1))),(3,.m 59 58),(4,.h 60 59 (.fa 10 6)),(5,.h 61 59 (.ld 1 false 60)),(6,.h 62 59 (.n .gtr 61 (.k 1))),(7,.h 63 59 (.mv 62)),(8,.g 64 63 (.fa 0 6)),(9,.g 65 63 (.fa 0 64)),(10,.g 66 63 (.ld 1 false 65)),(11,.g 67 63 (.n .geq 66 (.k 3))),(12,.h 68 59 (.pick 63 67 (.c (.b false)))),(13,.o 69 (.pick 59 (.c (.b true)) 68)),(14,.m 70 69),(15,.h 71 70 (.fa 0 6)),(16,.h 72 70 (.ld 10 true 71)),(17,.h 73 70 (.call 109 true [72])),(18,.h 74 70 (.un .not 73)),(19,.o 75 (.pick 70 (.c (.b true)) 74)),(20,.m 76 75),(21,.h 77 76 (.mv 5)),(22,.h 78 76 (.n .gtr 77 (.k 0))),(23,.h 79 76 (.mv 78)),(24,.g 80 79 (.fa 1 4)),(25,.g 81 79 (.ld 1 false 80)),(26,.g 82 79 (.mv 5)),(27,.g 83 79 (.n .sub 82 (.k 1))),(28,.g 84 79 (.ia 11 81 83)),(29,.g 85 79 (.fa 0 84)),(30,.g 86 79 (.ld 10 true 85)),(31,.g 87 79 (.fa 0 6)),(32,.g 88 79 (.ld 10 true 87)),(33,.g 89 79 (.call 110 true [86,88])),(34,.g 90 79 (.n .geq 89 (.k 0))),(35,.h 91 76 (.pick 79 90 (.c (.b false)))),(36,.o 92 (.pick 76 (.c (.b true)) 91))] [6,56,57,58,59,60,61,62,63,64,65,66,67,68,69,70,71,72,73,74,75,76,77,78,79,80,81,82,83,84,85,86,87,88,89,90,91]) (.cond 92 (.q [.m 2 (.c (.b false))] [0,3,4,5,92] .ret) .skip)))) (.reg [.m 49 5,.o 50 (.n .add 49 (.k 1)),.m 5 50] [49,50,92]))
def c67_r0:C:=
 .reg [.m 14 3,.o 15 (.n .add 14 (.k 1)),.m 3 15] [4,5,14,15,48]
def c67_1:C:=
 .seq (.q [.m 10 3,.m 11 0,.o 12 (.len false 11),.o 13 (.n .lss 10 12)] [10,11,12] (.cond 13 .skip (.exit 0))) (.seq (.blk 1 (.q [.m 16 0,.m 17 3,.o 18 (.ia 2 16 17),.o 19 (.ld 2 true 18),.o 4 (.alloc [.i .i64 0,.sl 11 true [] .ro]),.e (.st 2 true 4 19)] [13,16,17,18,19] (.seq (.seq (.dreg [(0,.o 20 (.fa 0 4)),(1,.o 21 (.ld 1 false 20)),(2,.o 22 (.n .lss 21 (.k 1))),(3,.m 23 22),(4,.h 24 23 (.fa 0 4)),(5,.h 25 23 (.ld 1 false 24)),(6,.h 26 23 (.n .gtr 25 (.k 1152921504606846976))),(7,.o 27 (.pick 23 (.c (.b true)) 26)),(8,.m 28 27),(9,.h 29 28 (.mv 3)),(10,.h 30 28 (.n .gtr 29 (.k 0))),(11,.h 31 28 (.mv 30)),(12,.g 32 31 (.mv 0)),(13,.g 33 31 (.mv 3)),(14,.g 34 31 (.n .sub 33 (.k 1))),(15,.g 35 31 (.ia 2 32 34)),(16,.g 36 31 (.fa 1 35)),(17,.g 37 31 (.ld 1 false 36)),(18,.g 38 31 (.fa 1 4)),(19,.g 39 31 (.ld 1 false 38)),(20,.g 40 31 (.call 108 true [37,39])),(21,.g 41 31 (.n .geq 40 (.k 0))),(22,.h 42 28 (.pick 31 41 (.c (.b false)))),(23,.o 43 (.pick 28 (.c (.b true)) 42))] [20,21,22,23,24,25,26,27,28,29,30,31,32,33,34,35,36,37,38,39,40,41,42]) (.cond 43 (.q [.m 2 (.c (.b false))] [0,3,4,43] .ret) .skip)) (.q [.m 5 (.k 0)] [43] (.blk 2 (.loop [] c67_0)))))) c67_r0)
def c67_r1:C:=
 .q [.m 2 (.c (.b true))] [0,3,13] .ret
def c67:C:=
 (.q [.m 2 (.c (.b false))] [2] (.seq (.q [.m 7 0,.o 8 (.call 107 true [7]),.o 9 (.un .not 8)] [7,8] (.cond 9 (.q [.m 2 (.c (.b false))] [0,9] .ret) .skip)) (.seq (.q [.m 3 (.k 0)] [9] (.blk 0 (.loop [] c67_1))) c67_r1)))
def d67:Fn:={ real:=67,np:=1,nt:=93,res:=[.t 2],body:=c67 }
def c68_0:C:=
 .seq (.q [.m 35 6,.o 36 (.fa 3 5),.o 37 (.ld 1 false 36),.o 38 (.len false 37),.o 39 (.n .lss 35 38)] [35,36,37,38] (.cond 39 .skip (.exit 4))) (.seq (.blk 5 (.q [.o 42 (.fa 3 5),.o 43 (.ld 1 false 42),.m 44 6,.o 45 (.ia 1 43 44),.o 46 (.ld 1 false 45),.o 47 (.call 68 true [46])] [39,42,43,44,45,46] (.cond 47 (.q [.m 2 (.c (.b true))] [0,3,4,5,6,47] .ret) .skip))) (.reg [.m 40 6,.o 41 (.n .add 40 (.k 1)),.m 6 41] [40,41,47]))
def c68_r0:C:=
 .reg [.m 21 4,.o 22 (.n .add 21 (.k 1)),.m 4 22] [5,6,21,22,39]
def c68_1:C:=
 .seq (.q [.m 13 4,.m 14 0,.m 15 3,.o 16 (.ia 2 14 15),.o 17 (.fa 1 16),.o 18 (.ld 1 false 17),.o 19 (.len false 18),.o 20 (.n .lss 13 19)] [13,14,15,16,17,18,19] (.cond 20 .skip (.exit 2))) (.seq (.blk 3 (.q [.m 23 0,.m 24 3,.o 25 (.ia 2 23 24),.o 26 (.fa 1 25),.o 27 (.ld 1 false 26),.m 28 4,.o 29 (.ia 11 27 28),.o 30 (.fa 0 29),.o 31 (.ld 10 true 30),.o 5 (.alloc [.i .i64 0,.i .i64 0,.i .i64 0,.sl 1 true [] .ro,.i .i64 0,.sl 4 true [] .ro,.i .i64 0,.i .i64 0,.i .i64 0,.s []]),.e (.st 10 true 5 31)] [20,23,24,25,26,27,28,29,30,31] (.seq (.q [.o 32 (.fa 0 5),.o 33 (.ld 1 false 32),.o 34 (.n .eql 33 (.k 4))] [32,33] (.cond 34 (.q [.m 2 (.c (.b true))] [0,3,4,5,34] .ret) .skip)) (.q [.m 6 (.k 0)] [34] (.blk 4 (.loop [] c68_0)))))) c68_r0)
def c68_r1:C:=
 .reg [.m 11 3,.o 12 (.n .add 11 (.k 1)),.m 3 12] [4,11,12,20]
def c68_2:C:=
 .seq (.q [.m 7 3,.m 8 0,.o 9 (.len false 8),.o 10 (.n .lss 7 9)] [7,8,9] (.cond 10 .skip (.exit 0))) (.seq (.blk 1 (.q [.m 4 (.k 0)] [10] (.blk 2 (.loop [] c68_1)))) c68_r1)
def c68_r2:C:=
 .q [.m 2 (.c (.b false))] [0,3,10] .ret
def c68:C:=
 (.q [.m 2 (.c (.b false))] [2] (.seq (.q [.m 3 (.k 0)] [] (.blk 0 (.loop [] c68_2))) c68_r2))
def d68:Fn:={ real:=68,np:=1,nt:=48,res:=[.t 2],body:=c68 }
def c69_0:C:=
 .seq (.q [.m 57 8,.o 58 (.fa 5 6),.o 59 (.ld 1 false 58),.o 60 (.len false 59),.o 61 (.n .lss 57 60)] [57,58,59,60] (.cond 61 .skip (.exit 6))) (.seq (.blk 7 (.reg [.m 64 3,.o 65 (.fa 5 6),.o 66 (.ld 1 false 65),.m 67 8,.o 68 (.ia 4 66 67),.o 69 (.fa 3 68),.o 70 (.ld 1 false 69),.o 71 (.call 69 true [70]),.o 72 (.call 112 true [64,71]),.m 3 72] [61,64,65,66,67,68,69,70,71,72])) (.reg [.m 62 8,.o 63 (.n .add 62 (.k 1)),.m 8 63] [62,63]))
def c69_1:C:=
 .seq (.q [.m 42 7,.o 43 (.fa 3 6),.o 44 (.ld 1 false 43),.o 45 (.len false 44),.o 46 (.n .lss 42 45)] [42,43,44,45] (.cond 46 .skip (.exit 4))) (.seq (.blk 5 (.reg [.m 49 3,.o 50 (.fa 3 6),.o 51 (.ld 1 false 50),.m 52 7,.o 53 (.ia 1 51 52),.o 54 (.ld 1 false 53),.o 55 (.call 69 true [54]),.o 56 (.call 112 true [49,55]),.m 3 56] [46,49,50,51,52,53,54,55,56])) (.reg [.m 47 7,.o 48 (.n .add 47 (.k 1)),.m 7 48] [47,48]))
def c69_r0:C:=
 .q [.m 8 (.k 0)] [7,46] (.blk 6 (.loop [] c69_0))
def c69_r1:C:=
 .reg [.m 24 5,.o 25 (.n .add 24 (.k 1)),.m 5 25] [6,8,24,25,61]
def c69_2:C:=
 .seq (.q [.m 16 5,.m 17 0,.m 18 4,.o 19 (.ia 2 17 18),.o 20 (.fa 1 19),.o 21 (.ld 1 false 20),.o 22 (.len false 21),.o 23 (.n .lss 16 22)] [16,17,18,19,20,21,22] (.cond 23 .skip (.exit 2))) (.seq (.blk 3 (.q [.m 26 0,.m 27 4,.o 28 (.ia 2 26 27),.o 29 (.fa 1 28),.o 30 (.ld 1 false 29),.m 31 5,.o 32 (.ia 11 30 31),.o 33 (.fa 0 32),.o 34 (.ld 10 true 33),.o 6 (.alloc [.i .i64 0,.i .i64 0,.i .i64 0,.sl 1 true [] .ro,.i .i64 0,.sl 4 true [] .ro,.i .i64 0,.i .i64 0,.i .i64 0,.s []]),.e (.st 10 true 6 34)] [23,26,27,28,29,30,31,32,33,34] (.seq (.q [.o 35 (.fa 0 6),.o 36 (.ld 1 false 35),.o 37 (.n .eql 36 (.k 0))] [35,36] (.cond 37 (.reg [.m 38 3,.o 39 (.fa 1 6),.o 40 (.ld 2 true 39),.o 41 (.call 111 true [38,40]),.m 3 41] [37,38,39,40,41]) .skip)) (.seq (.q [.m 7 (.k 0)] [37] (.blk 4 (.loop [] c69_1))) c69_r0)))) c69_r1)
def c69_r2:C:=
 .reg [.m 14 4,.o 15 (.n .add 14 (.k 1)),.m 4 15] [5,14,15,23]
def c69_3:C:=
 .seq (.q [.m 10 4,.m 11 0,.o 12 (.len false 11),.o 13 (.n .lss 10 12)] [10,11,12] (.cond 13 .skip (.exit 0))) (.seq (.blk 1 (.q [.m 5 (.k 0)] [13] (.blk 2 (.loop [] c69_2)))) c69_r2)
def c69_r3:C:=
 .q [.m 73 3,.m 2 73] [0,3,4,13,73] .ret
def c69:C:=
 (.q [.m 2 (.c (.sl 2 true [] .ro))] [2] (.q [.o 9 (.bsl 2 true true []),.m 3 9] [9] (.seq (.q [.m 4 (.k 0)] [] (.blk 0 (.loop [] c69_3))) c69_r3)))
def d69:Fn:={ real:=69,np:=1,nt:=74,res:=[.t 2],body:=c69 }
def c70_0:C:=
 .seq (.q [.m 26 11,.m 27 1,.m 28 9,.o 29 (.ia 2 27 28),.o 30 (.fa 1 29),.o 31 (.ld 1 false 30),.o 32 (.len false 31),.o 33 (.n .lss 26 32)] [26,27,28,29,30,31,32] (.cond 33 .skip (.exit 2))) (.seq (.blk 3 (.q [.m 37 0,.m 38 1,.m 39 9,.o 40 (.ia 2 38 39),.o 41 (.fa 1 40),.o 42 (.ld 1 false 41),.m 43 11,.o 44 (.ia 11 42 43),.o 45 (.fa 0 44),.o 46 (.ld 10 true 45),.m 47 2,.o 48 (.call 113 true [37,46,47]),.m 36 48,.o 49 (.ext 36 0),.o 50 (.ext 36 1),.m 12 49,.m 13 50] [33,36,37,38,39,40,41,42,43,44,45,46,47,48,49,50] (.seq (.q [.m 51 13,.o 52 (.un .not 51)] [13,51] (.cond 52 (.q [.m 6 (.c (.sl 1 true [] .ro)),.m 7 (.c (.b false))] [0,1,2,8,9,10,11,12,52] .ret) .skip)) (.q [.m 53 10,.m 54 12,.o 55 (.call 28 true [53,54]),.m 10 55] [12,52,53,54,55] (.q [.m 56 0,.m 57 10,.m 58 2,.o 59 (.call 114 true [56,57,58]),.o 60 (.un .not 59)] [56,57,58,59] (.cond 60 (.q [.m 6 (.c (.sl 1 true [] .ro)),.m 7 (.c (.b false))] [0,1,2,8,9,10,11,60] .ret) .skip)))))) (.reg [.m 34 11,.o 35 (.n .add 34 (.k 1)),.m 11 35] [34,35,60]))
def c70_r0:C:=
 .q [.m 61 8,.m 62 10,.o 63 (.call 29 true [61,62]),.m 8 63] [10,11,33,61,62,63] (.q [.m 64 0,.m 65 8,.m 66 2,.o 67 (.call 114 true [64,65,66]),.o 68 (.un .not 67)] [64,65,66,67] (.cond 68 (.q [.m 6 (.c (.sl 1 true [] .ro)),.m 7 (.c (.b false))] [0,1,2,8,9,68] .ret) .skip))
def c70_r1:C:=
 .reg [.m 21 9,.o 22 (.n .add 21 (.k 1)),.m 9 22] [21,22,68]
def c70_1:C:=
 .seq (.q [.m 17 9,.m 18 1,.o 19 (.len false 18),.o 20 (.n .lss 17 19)] [17,18,19] (.cond 20 .skip (.exit 0))) (.seq (.blk 1 (.q [.m 23 0,.o 24 (.len false 23),.o 25 (.call 19 true [24,.c (.b true)]),.m 10 25] [20,23,24,25] (.seq (.q [.m 11 (.k 0)] [] (.blk 2 (.loop [] c70_0))) c70_r0))) c70_r1)
def c70_r2:C:=
 .q [.m 69 8,.m 6 69,.m 7 (.c (.b true))] [0,1,2,8,9,20,69] .ret
def c70:C:=
 (.q [.m 6 (.c (.sl 1 true [] .ro)),.m 7 (.c (.b false))] [6,7] (.q [.m 14 0,.o 15 (.len false 14),.o 16 (.call 19 true [15,.c (.b false)]),.m 8 16] [14,15,16] (.seq (.q [.m 9 (.k 0)] [] (.blk 0 (.loop [] c70_1))) c70_r2)))
def d70:Fn:={ real:=70,np:=3,nt:=70,res:=[.t 6,.t 7],body:=c70 }
def c71_0:C:=
 .q [.o 12 (.n .lss 11 10)] [] (.seq (.cond 12 .skip (.exit 0)) (.seq (.blk 1 (.q [.m 13 11,.o 14 (.ia 3 9 11),.o 15 (.ld 3 true 14),.o 5 (.alloc [.i .i64 0,.i .i64 0,.i .i64 0]),.m 4 13,.e (.st 3 true 5 15)] [12,13,14,15] (.q [.o 16 (.fa 1 5),.o 17 (.ld 1 false 16),.o 18 (.n .geq 17 (.k 0)),.m 19 18,.g 20 19 (.fa 2 5),.g 21 19 (.ld 1 false 20),.g 22 19 (.n .geq 21 (.k 0)),.o 23 (.pick 19 22 (.c (.b false))),.m 24 23,.g 25 24 (.fa 1 5),.g 26 24 (.ld 1 false 25),.g 27 24 (.mv 4),.g 28 24 (.n .add 27 (.k 2)),.g 29 24 (.n .lss 26 28),.o 30 (.pick 24 29 (.c (.b false))),.m 31 30,.g 32 31 (.fa 2 5),.g 33 31 (.ld 1 false 32),.g 34 31 (.mv 4),.g 35 31 (.n .add 34 (.k 2)),.g 36 31 (.n .lss 33 35),.o 37 (.pick 31 36 (.c (.b false))),.m 6 37] [4,16,17,18,19,20,21,22,23,24,25,26,27,28,29,30,31,32,33,34,35,36,37] (.seq (.seq (.dreg [(0,.o 38 (.fa 0 5)),(1,.o 39 (.ld 1 false 38)),(2,.o 40 (.n .lss 39 (.k 0))),(3,.m 41 40),(4,.h 42 41 (.fa 0 5)),(5,.h 43 41 (.ld 1 false 42)),(6,.h 44 41 (.fa 0 1)),(7,.h 45 41 (.ld 1 false 44)),(8,.h 46 41 (.len false 45)),(9,.h 47 41 (.n .geq 43 46)),(10,.o 48 (.pick 41 (.c (.b true)) 47)),(11,.m 49 48),(12,.h 50 49 (.mv 6)),(13,.h 51 49 (.un .not 50)),(14,.o 52 (.pick 49 (.c (.b true)) 51)),(15,.m 53 52),(16,.h 54 53 (.fa 1 5)),(17,.h 55 53 (.ld 1 false 54)),(18,.h 56 53 (.fa 2 5)),(19,.h 57 53 (.ld 1 false 56)),(20,.h 58 53 (.n .eql 55 57)),(21,.o 59 (.pick 53 (.c (.b true)) 58)),(22,.m 60 59),(23,.h 61 60 (.mv 3)),(24,.h 62 60 (.ld 3 true 5)),(25,.h 63 60 (.lk (.agg [.i,.i,.i]) false (.b false) 61 62)),(26,.o 64 (.pick 60 (.c (.b true)) 63)),(27,.m 65 64),(28,.h 66 65 (.ld 3 true 1)),(29,.h 67 65 (.fa 1 5)),(30,.h 68 65 (.ld 1 false 67)),(31,.h 69 65 (.call 77 true [66,68])),(32,.h 70 65 (.fa 0 5)),(33,.h 71 65 (.ld 1 false 70)),(34,.h 72 65 (.n .leq 69 71)),(35,.o 73 (.pick 65 (.c (.b true)) 72)),(36,.m 74 73),(37,.h 75 74 (.ld 3 true 1)),(38,.h 76 74 (.fa 2 5)),(39,.h 77 74 (.ld 1 false 76)),(40,.h 78 74 (.call 77 true [75,77])),(41,.h 79 74 (.fa 0 5)),(42,.h 80 74 (.ld 1 false 79)),(43,.h 81 74 (.n .leq 78 80)),(44,.o 82 (.pick 74 (.c (.b true)) 81))] [6,38,39,40,41,42,43,44,45,46,47,48,49,50,51,52,53,54,55,56,57,58,59,60,61,62,63,64,65,66,67,68,69,70,71,72,73,74,75,76,77,78,79,80,81]) (.cond 82 (.q [.m 2 (.c (.b false))] [1,3,5,9,10,11,82] .ret) .skip)) (.reg [.m 83 3,.o 84 (.ld 3 true 5),.e (.mu (.agg [.i,.i,.i]) 83 84 (.c (.b true)))] [5,82,83,84]))))) (.reg [.o 85 (.n .add 11 (.k 1)),.m 11 85] [85])))
def c71_r0:C:=
 .q [.o 86 (.fa 2 1),.o 87 (.ld 1 false 86),.o 88 (.n .geq 87 (.k 0)),.m 89 88,.g 90 89 (.fa 2 1),.g 91 89 (.ld 1 false 90),.g 92 89 (.fa 1 1),.g 93 89 (.ld 1 false 92),.g 94 89 (.len false 93),.g 95 89 (.n .add 94 (.k 2)),.g 96 89 (.n .lss 91 95),.o 97 (.pick 89 96 (.c (.b false))),.m 2 97] [1,3,9,10,11,12,86,87,88,89,90,91,92,93,94,95,96,97] .ret
def c71:C:=
 (.q [.o 1 (.box 3 true 0),.m 2 (.c (.b false))] [0,2] (.q [.o 7 (.mkmap),.m 3 7] [7] (.seq (.q [.o 8 (.fa 1 1),.o 9 (.ld 1 false 8),.o 10 (.len false 9),.m 11 (.k 0)] [8] (.blk 0 (.loop [] c71_0))) c71_r0)))
def d71:Fn:={ real:=71,np:=1,nt:=98,res:=[.t 2],body:=c71 }
def c72:C:=
 (.q [.o 4 (.box 1 false 1),.o 6 (.alloc [.sl 2 true [] .ro,.sl 3 true [] .ro,.i .i64 0])] [1] (.q [.m 10 0,.o 11 (.call 49 true [10]),.o 12 (.bld [.sl 2 true [] .ro,.sl 3 true [] .ro,.i .i64 0] [(0,1,false,11)]),.o 7 (.alloc [.sl 2 true [] .ro,.sl 3 true [] .ro,.i .i64 0]),.e (.st 3 true 7 12)] [0,10,11,12] (.q [.o 13 (.mkmap),.e (.mu (.one .i) 13 (.k 0) (.k 0)),.e (.mu (.one .i) 13 (.k 1) (.k 1)),.m 14 13,.o 8 (.alloc [.nilm]),.e (.st 1 false 8 14)] [13,14] (.q [.o 9 (.alloc [.top])] [] (.q [.o 15 (.mkfn 115 [8,4,9,7]),.e (.st 1 false 9 15)] [4,8,15] (.q [.o 16 (.ld 1 false 9),.m 17 2,.o 18 (.calld 16 false [17]),.o 19 (.fa 2 7),.e (.st 1 false 19 18)] [2,9,16,17,18,19] (.q [.o 20 (.ld 3 true 7),.e (.st 3 true 6 20)] [7,20] .ret)))))))
def d72:Fn:={ real:=72,np:=3,nt:=21,res:=[.cell 6 3 true],body:=c72 }
def c73_0:C:=
 .q [.o 14 (.n .lss 13 12)] [] (.seq (.cond 14 .skip (.exit 0)) (.seq (.blk 1 (.q [.m 15 13,.m 5 15] [14,15] (.seq (.dreg [(0,.m 16 0),(1,.m 17 5),(2,.o 18 (.ia 3 16 17)),(3,.o 19 (.ld 3 true 18)),(4,.m 20 1),(5,.m 21 5),(6,.o 22 (.ia 3 20 21)),(7,.o 23 (.ld 3 true 22)),(8,.o 24 (.bin .neq (.agg [.i,.i,.i]) 19 23))] [5,16,17,18,19,20,21,22,23]) (.cond 24 (.q [.m 4 (.c (.b false))] [0,1,12,13,24] .ret) .skip)))) (.reg [.o 25 (.n .add 13 (.k 1)),.m 13 25] [24,25])))
def c73_r0:C:=
 .q [.m 4 (.c (.b true))] [0,1,12,13,14] .ret
def c73:C:=
 (.q [.m 4 (.c (.b false))] [4] (.seq (.q [.m 6 0,.o 7 (.len false 6),.m 8 1,.o 9 (.len false 8),.o 10 (.n .neq 7 9)] [6,7,8,9] (.cond 10 (.q [.m 4 (.c (.b false))] [0,1,10] .ret) .skip)) (.seq (.q [.m 11 0,.o 12 (.len false 11),.m 13 (.k 0)] [10,11] (.blk 0 (.loop [] c73_0))) c73_r0)))
def d73:Fn:={ real:=73,np:=2,nt:=26,res:=[.t 4],body:=c73 }
def c74_0:C:=
 .q [.o 14 (.n .lss 13 12)] [] (.seq (.cond 14 .skip (.exit 0)) (.seq (.blk 1 (.q [.m 15 13,.m 5 15] [14,15] (.seq (.dreg [(0,.m 16 0),(1,.m 17 5),(2,.o 18 (.ia 2 16 17)),(3,.o 19 (.ld 2 true 18)),(4,.m 20 1),(5,.m 21 5),(6,.o 22 (.ia 2 20 21)),(7,.o 23 (.ld 2 true 22)),(8,.o 24 (.bin .neq (.agg [.i,.i]) 19 23))] [5,16,17,18,19,20,21,22,23]) (.cond 24 (.q [.m 4 (.c (.b false))] [0,1,12,13,24] .ret) .skip)))) (.reg [.o 25 (.n .add 13 (.k 1)),.m 13 25] [24,25])))
def c74_r0:C:=
 .q [.m 4 (.c (.b true))] [0,1,12,13,14] .ret
def c74:C:=
 (.q [.m 4 (.c (.b false))] [4] (.seq (.q [.m 6 0,.o 7 (.len false 6),.m 8 1,.o 9 (.len false 8),.o 10 (.n .neq 7 9)] [6,7,8,9] (.cond 10 (.q [.m 4 (.c (.b false))] [0,1,10] .ret) .skip)) (.seq (.q [.m 11 0,.o 12 (.len false 11),.m 13 (.k 0)] [10,11] (.blk 0 (.loop [] c74_0))) c74_r0)))
def d74:Fn:={ real:=74,np:=2,nt:=26,res:=[.t 4],body:=c74 }
end Go.Proofs.YtjlmeikcfdanmaaGreatDoor.DE

namespace Go.Proofs.YtjlmeikcfdanmaaGreatDoor.DE
def c75:C:=
 (.q [.m 2 (.c (.sl 1 true [] .ro))] [2] (.q [.m 3 0,.o 4 (.conv .u32 3),.m 5 0,.o 6 (.n .shr 5 (.c (.i .u64 32))),.o 7 (.conv .u32 6),.o 8 (.bsl 1 false false [4,7]),.o 9 (.call 116 true [8]),.m 2 9] [0,3,4,5,6,7,8,9] .ret))
def d75:Fn:={ real:=75,np:=1,nt:=10,res:=[.t 2],body:=c75 }
def c76:C:=
 (.q [.m 4 (.c (.sl 1 true [] .ro)),.m 5 (.k 0)] [4,5] (.seq (.blk 0 (.q [.m 7 0,.o 8 (.call 79 true [7]),.o 9 (.un .not 8),.m 6 9] [7,8,9] (.cond 6 (.q [.m 4 (.c (.sl 1 true [] .ro)),.m 5 (.k 1)] [0,1,6] .ret) (.q [.m 11 0,.o 12 (.len false 11),.o 13 (.n .eql 12 (.k 0)),.m 14 13,.h 15 14 (.mv 1),.h 16 14 (.n .lss 15 (.k (-4096))),.o 17 (.pick 14 (.c (.b true)) 16),.m 10 17] [6,11,12,13,14,15,16,17] (.cond 10 (.q [.m 4 (.c (.sl 1 true [] .ro)),.m 5 (.k 0)] [0,1,10] .ret) (.q [.m 19 1,.o 20 (.n .gtr 19 (.k 4096)),.m 18 20] [10,19,20] (.cond 18 (.q [.m 4 (.c (.sl 1 true [] .ro)),.m 5 (.k 6)] [0,1,18] .ret) (.q [.m 22 1,.o 23 (.n .geq 22 (.k 0)),.m 21 23] [18,22,23] (.cond 21 (.seq (.dreg [(0,.m 24 1),(1,.o 25 (.n .quo 24 (.k 32))),(3,.m 27 0),(4,.m 28 1),(5,.o 29 (.n .rem 28 (.k 32))),(6,.o 30 (.call 118 true [27,29])),(2,.o 26 (.mksl 1 false [.i .u32 0] 25)),(7,.o 31 (.app 1 false 26 30)),(8,.o 32 (.call 117 true [31])),(9,.o 33 (.ext 32 0)),(10,.o 34 (.ext 32 1)),(11,.m 4 33),(12,.m 5 34)] [0,1,21,24,25,26,27,28,29,30,31,32,33,34]) .ret) .skip))))))))) (.q [.m 35 1,.o 36 (.un .neg 35),.m 1 36] [21,35,36] (.seq (.q [.m 37 1,.o 38 (.n .quo 37 (.k 32)),.m 39 0,.o 40 (.len false 39),.o 41 (.n .geq 38 40)] [37,38,39,40] (.cond 41 (.q [.m 4 (.c (.sl 1 true [] .ro)),.m 5 (.k 0)] [0,1,41] .ret) .skip)) (.q [.m 42 0,.m 43 1,.o 44 (.n .quo 43 (.k 32)),.o 45 (.slc 1 42 (some 44) none),.m 46 1,.o 47 (.n .rem 46 (.k 32)),.o 48 (.call 119 true [45,47]),.o 49 (.call 116 true [48]),.m 4 49,.m 5 (.k 0)] [0,1,41,42,43,44,45,46,47,48,49] .ret)))))
def d76:Fn:={ real:=76,np:=2,nt:=50,res:=[.t 4,.t 5],body:=c76 }
def c77:C:=
 (.q [.o 2 (.box 3 true 0),.m 4 (.k 0)] [0,4] (.seq (.q [.m 5 1,.o 6 (.n .lss 5 (.k 2))] [5] (.cond 6 (.q [.o 7 (.fa 0 2),.o 8 (.ld 1 false 7),.o 9 (.len false 8),.m 4 9] [1,2,6,7,8,9] .ret) .skip)) (.q [.o 10 (.fa 1 2),.o 11 (.ld 1 false 10),.m 12 1,.o 13 (.n .sub 12 (.k 2)),.o 14 (.ia 3 11 13),.o 15 (.fa 0 14),.o 16 (.ld 1 false 15),.m 4 16] [1,2,6,10,11,12,13,14,15,16] .ret)))
def d77:Fn:={ real:=77,np:=2,nt:=17,res:=[.t 4],body:=c77 }
def c78_0:C:=
 .q [.o 33 (.n .lss 32 31)] [] (.seq (.cond 33 .skip (.exit 0)) (.seq (.blk 1 (.q [.m 34 32,.m 10 34] [33,34] (.reg [.m 36 8,.m 37 10,.m 38 6,.m 39 10,.o 40 (.calld 38 false [39]),.m 41 7,.m 42 10,.o 43 (.calld 41 false [42]),.m 44 9,.o 45 (.call 121 true [40,43,44]),.m 35 45,.o 46 (.ext 35 0),.o 47 (.ext 35 1),.o 48 (.ia 1 36 37),.e (.st 1 false 48 46),.m 9 47] [10,35,36,37,38,39,40,41,42,43,44,45,46,47,48]))) (.reg [.o 49 (.n .add 32 (.k 1)),.m 32 49] [49])))
def c78_r0:C:=
 .q [.fz 8,.m 50 8,.o 51 (.call 117 true [50]),.o 52 (.ext 51 0),.o 53 (.ext 51 1),.m 4 52,.m 5 53] [6,7,8,9,31,32,33,50,51,52,53] .ret
def c78:C:=
 (.q [.m 4 (.c (.sl 1 true [] .ro)),.m 5 (.k 0)] [4,5] (.seq (.q [.m 11 0,.o 12 (.call 79 true [11]),.o 13 (.un .not 12),.m 14 13,.h 15 14 (.mv 1),.h 16 14 (.call 79 true [15]),.h 17 14 (.un .not 16),.o 18 (.pick 14 (.c (.b true)) 17)] [11,12,13,14,15,16,17] (.cond 18 (.q [.m 4 (.c (.sl 1 true [] .ro)),.m 5 (.k 1)] [0,1,18] .ret) .skip)) (.q [.m 19 0,.o 20 (.call 120 false [19]),.m 21 1,.o 22 (.call 120 false [21]),.m 6 20,.m 7 22] [18,19,20,21,22] (.q [.m 23 0,.o 24 (.len false 23),.m 25 1,.o 26 (.len false 25),.o 27 (.mx 24 26),.o 28 (.n .add 27 (.k 1)),.o 29 (.mksl 1 true [.i .u32 0] 28),.m 8 29] [0,1,23,24,25,26,27,28,29] (.q [.m 9 (.c (.i .u32 0))] [] (.seq (.q [.m 30 8,.o 31 (.len false 30),.m 32 (.k 0)] [30] (.blk 0 (.loop [] c78_0))) c78_r0))))))
def d78:Fn:={ real:=78,np:=2,nt:=54,res:=[.t 4,.t 5],body:=c78 }
def c79:C:=
 (.q [.m 2 (.c (.b false))] [2] (.q [.m 3 0,.o 4 (.len false 3),.o 5 (.n .leq 4 (.k 128)),.m 6 5,.g 7 6 (.mv 0),.g 8 6 (.len false 7),.g 9 6 (.n .eql 8 (.k 0)),.g 10 6 (.mv 9),.h 11 10 (.mv 0),.h 12 10 (.mv 0),.h 13 10 (.len false 12),.h 14 10 (.n .sub 13 (.k 1)),.h 15 10 (.ia 1 11 14),.h 16 10 (.ld 1 false 15),.h 17 10 (.n .neq 16 (.c (.i .u32 0))),.g 18 6 (.pick 10 (.c (.b true)) 17),.o 19 (.pick 6 18 (.c (.b false))),.m 2 19] [0,3,4,5,6,7,8,9,10,11,12,13,14,15,16,17,18,19] .ret))
def d79:Fn:={ real:=79,np:=1,nt:=20,res:=[.t 2],body:=c79 }
def c80:C:=
 (.q [.m 8 (.k 0)] [8] (.seq (.q [.m 12 2,.m 13 3,.o 14 (.n .eql 12 13)] [12,13] (.cond 14 (.q [.m 15 2,.m 8 15] [0,1,2,3,14,15] .ret) .skip)) (.q [.m 16 1,.m 17 2,.m 18 3,.o 19 (.bld [.i .i64 0,.i .i64 0,.i .i64 0] [(0,1,false,16),(1,1,false,17),(2,1,false,18)]),.o 9 (.alloc [.i .i64 0,.i .i64 0,.i .i64 0]),.e (.st 3 true 9 19)] [1,2,3,14,16,17,18,19] (.seq (.q [.m 20 0,.o 21 (.nilck 20),.o 22 (.fa 1 21),.o 23 (.ld 1 false 22),.o 24 (.bin .eql .map 23 (.c (.nilm)))] [20,21,22,23] (.cond 24 (.reg [.m 25 0,.o 26 (.mkmap),.o 27 (.nilck 25),.o 28 (.fa 1 27),.e (.st 1 false 28 26)] [24,25,26,27,28]) .skip)) (.seq (.dreg [(0,.m 30 0),(1,.o 31 (.nilck 30)),(2,.o 32 (.fa 1 31)),(3,.o 33 (.ld 1 false 32)),(4,.o 34 (.ld 3 true 9)),(5,.o 35 (.lk (.agg [.i,.i,.i]) true (.i .i64 0) 33 34)),(6,.m 29 35),(7,.o 36 (.ext 29 0)),(8,.o 37 (.ext 29 1)),(9,.m 10 36),(10,.m 11 37)] [24,29,30,31,32,33,34,35,36,37]) (.seq (.q [.m 38 11,.o 39 (.un .not 38)] [11,38] (.cond 39 (.q [.m 40 0,.o 41 (.nilck 40),.o 42 (.fa 0 41),.o 43 (.ld 1 false 42),.o 44 (.len false 43),.o 45 (.n .add 44 (.k 2)),.m 10 45] [39,40,41,42,43,44,45] (.dreg [(0,.m 46 0),(1,.m 47 0),(2,.o 48 (.nilck 47)),(3,.o 49 (.fa 1 48)),(4,.o 50 (.ld 1 false 49)),(5,.o 51 (.ld 3 true 9)),(6,.m 52 0),(7,.o 53 (.nilck 52)),(8,.o 54 (.fa 0 53)),(9,.o 55 (.ld 1 false 54)),(10,.o 56 (.ld 3 true 9)),(11,.o 57 (.bsl 3 true false [56])),(13,.m 59 10),(12,.o 58 (.app 3 false 55 57)),(4,.ck 50 (.ld 1 false 49)),(5,.ck 51 (.ld 3 true 9)),(14,.o 60 (.nilck 46)),(15,.o 61 (.fa 0 60)),(16,.e (.st 1 false 61 58)),(5,.ck 51 (.ld 3 true 9)),(17,.o 62 (.ment (.agg [.i,.i,.i]) (.i .i64 0) 50 51)),(18,.o 63 (.ext 62 1)),(19,.e (.est 50 63 59))] [0,9,46,47,48,49,50,51,52,53,54,55,56,57,58,59,60,61,62,63])) .skip)) (.q [.m 64 10,.m 8 64] [0,9,10,39,64] .ret)))))))
def d80:Fn:={ real:=80,np:=4,nt:=65,res:=[.t 8],body:=c80 }
def c81:C:=
 (.q [.m 2 (.c (.sl 2 true [] .ro))] [2] (.q [.m 4 0,.o 5 (.call 1049 false [4]),.m 3 5] [0,4,5] (.q [.m 6 3,.o 7 (.call 122 false [6,.c (.fn 123 [])])] [6,7] (.q [.m 8 3,.o 9 (.call 124 false [8]),.fz 9,.m 2 9] [3,8,9] .ret))))
def d81:Fn:={ real:=81,np:=1,nt:=10,res:=[.t 2],body:=c81 }
def c83:C:=
 (.q [.m 4 (.k 0)] [4] (.seq (.q [.m 5 0,.m 6 1,.o 7 (.n .quo (.k 1152921504606846976) 6),.o 8 (.n .gtr 5 7)] [5,6,7] (.cond 8 (.q [.m 4 (.k 1152921504606846976)] [0,1,8] .ret) .skip)) (.q [.m 9 0,.m 10 1,.o 11 (.n .mul 9 10),.m 4 11] [0,1,8,9,10,11] .ret)))
def d83:Fn:={ real:=83,np:=2,nt:=12,res:=[.t 4],body:=c83 }
def c84_0:C:=
 .seq (.seq (.dreg [(0,.m 7 5),(1,.m 8 0),(2,.o 9 (.len false 8)),(3,.o 10 (.n .lss 7 9)),(4,.m 11 10),(5,.g 12 11 (.mv 0)),(6,.g 13 11 (.mv 5)),(7,.g 14 11 (.ia 11 12 13)),(8,.g 15 11 (.fa 0 14)),(9,.g 16 11 (.ld 10 true 15)),(10,.g 17 11 (.fa 0 3)),(11,.g 18 11 (.ld 10 true 17)),(12,.g 19 11 (.call 110 true [16,18])),(13,.g 20 11 (.n .lss 19 (.k 0))),(14,.o 21 (.pick 11 20 (.c (.b false))))] [7,8,9,10,11,12,13,14,15,16,17,18,19,20]) (.cond 21 .skip (.exit 0))) (.blk 1 (.reg [.m 22 5,.o 23 (.n .add 22 (.k 1)),.m 5 23] [21,22,23]))
def c84_r0:C:=
 .q [.o 24 (.bsl 11 true true []),.m 25 0,.m 26 5,.o 27 (.slc 11 25 none (some 26)),.o 28 (.app 11 false 24 27),.m 6 28] [21,24,25,26,27,28] (.seq (.seq (.dreg [(0,.m 29 5),(1,.m 30 0),(2,.o 31 (.len false 30)),(3,.o 32 (.n .lss 29 31)),(4,.m 33 32),(5,.g 34 33 (.mv 0)),(6,.g 35 33 (.mv 5)),(7,.g 36 33 (.ia 11 34 35)),(8,.g 37 33 (.fa 0 36)),(9,.g 38 33 (.ld 10 true 37)),(10,.g 39 33 (.fa 0 3)),(11,.g 40 33 (.ld 10 true 39)),(12,.g 41 33 (.call 110 true [38,40])),(13,.g 42 33 (.n .eql 41 (.k 0))),(14,.o 43 (.pick 33 42 (.c (.b false))))] [29,30,31,32,33,34,35,36,37,38,39,40,41,42]) (.cond 43 (.seq (.q [.o 44 (.fa 0 3),.o 45 (.fa 0 44),.o 46 (.ld 1 false 45),.o 47 (.n .lss 46 (.k 3))] [43,44,45,46] (.cond 47 (.dreg [(0,.m 48 0),(1,.m 49 5),(2,.o 50 (.ia 11 48 49)),(3,.o 51 (.fa 10 50)),(4,.o 52 (.ld 1 false 51)),(5,.o 53 (.fa 10 3)),(6,.o 54 (.ld 1 false 53)),(7,.o 55 (.n .add 52 54)),(8,.o 56 (.fa 10 3)),(9,.e (.st 1 false 56 55))] [47,48,49,50,51,52,53,54,55,56]) .skip)) (.seq (.dreg [(0,.m 57 6),(1,.o 58 (.ld 11 true 3)),(2,.o 59 (.bsl 11 true false [58])),(4,.m 61 0),(5,.m 62 5),(6,.o 63 (.n .add 62 (.k 1))),(7,.o 64 (.slc 11 61 (some 63) none)),(3,.o 60 (.app 11 false 57 59)),(8,.o 65 (.app 11 false 60 64)),(9,.m 4 65)] [0,3,5,6,47,57,58,59,60,61,62,63,64,65]) .ret)) .skip)) (.seq (.dreg [(0,.m 66 6),(1,.o 67 (.ld 11 true 3)),(2,.o 68 (.bsl 11 true false [67])),(4,.m 70 0),(5,.m 71 5),(6,.o 72 (.slc 11 70 (some 71) none)),(3,.o 69 (.app 11 false 66 68)),(7,.o 73 (.app 11 false 69 72)),(8,.m 4 73)] [0,3,5,6,43,66,67,68,69,70,71,72,73]) .ret))
def c84:C:=
 (.q [.o 3 (.box 11 true 1),.m 4 (.c (.sl 11 true [] .ro))] [1,4] (.q [.m 5 (.k 0)] [] (.seq (.blk 0 (.loop [] c84_0)) c84_r0)))
def d84:Fn:={ real:=84,np:=2,nt:=74,res:=[.t 4],body:=c84 }
def c85_0:C:=
 .seq (.seq (.dreg [(0,.m 7 5),(1,.m 8 0),(2,.o 9 (.len false 8)),(3,.o 10 (.n .lss 7 9)),(4,.m 11 10),(5,.g 12 11 (.mv 0)),(6,.g 13 11 (.mv 5)),(7,.g 14 11 (.ia 2 12 13)),(8,.g 15 11 (.fa 1 14)),(9,.g 16 11 (.ld 1 false 15)),(10,.g 17 11 (.fa 1 3)),(11,.g 18 11 (.ld 1 false 17)),(12,.g 19 11 (.call 108 true [16,18])),(13,.g 20 11 (.n .lss 19 (.k 0))),(14,.o 21 (.pick 11 20 (.c (.b false))))] [7,8,9,10,11,12,13,14,15,16,17,18,19,20]) (.cond 21 .skip (.exit 0))) (.blk 1 (.reg [.m 22 5,.o 23 (.n .add 22 (.k 1)),.m 5 23] [21,22,23]))
def c85_r0:C:=
 .q [.o 24 (.bsl 2 true true []),.m 25 0,.m 26 5,.o 27 (.slc 2 25 none (some 26)),.o 28 (.app 2 false 24 27),.m 6 28] [21,24,25,26,27,28] (.seq (.seq (.dreg [(0,.m 29 5),(1,.m 30 0),(2,.o 31 (.len false 30)),(3,.o 32 (.n .lss 29 31)),(4,.m 33 32),(5,.g 34 33 (.mv 0)),(6,.g 35 33 (.mv 5)),(7,.g 36 33 (.ia 2 34 35)),(8,.g 37 33 (.fa 1 36)),(9,.g 38 33 (.ld 1 false 37)),(10,.g 39 33 (.fa 1 3)),(11,.g 40 33 (.ld 1 false 39)),(12,.g 41 33 (.call 108 true [38,40])),(13,.g 42 33 (.n .eql 41 (.k 0))),(14,.o 43 (.pick 33 42 (.c (.b false))))] [29,30,31,32,33,34,35,36,37,38,39,40,41,42]) (.cond 43 (.seq (.dreg [(0,.m 44 6),(1,.m 45 0),(2,.m 46 5),(3,.o 47 (.ia 2 45 46)),(4,.o 48 (.fa 0 47)),(5,.o 49 (.ld 1 false 48)),(6,.o 50 (.fa 0 3)),(7,.o 51 (.ld 1 false 50)),(8,.o 52 (.call 127 true [49,51])),(9,.o 53 (.fa 1 3)),(10,.o 54 (.ld 1 false 53)),(11,.o 55 (.bld [.i .i64 0,.sl 11 true [] .ro] [(0,1,false,52),(1,1,false,54)])),(12,.o 56 (.bsl 2 true false [55])),(13,.o 57 (.app 2 false 44 56)),(14,.m 6 57)] [3,43,44,45,46,47,48,49,50,51,52,53,54,55,56,57]) (.q [.m 58 6,.m 59 0,.m 60 5,.o 61 (.n .add 60 (.k 1)),.o 62 (.slc 2 59 (some 61) none),.o 63 (.app 2 false 58 62),.m 4 63] [0,5,6,58,59,60,61,62,63] .ret)) .skip)) (.seq (.dreg [(0,.m 64 6),(1,.o 65 (.ld 2 true 3)),(2,.o 66 (.bsl 2 true false [65])),(4,.m 68 0),(5,.m 69 5),(6,.o 70 (.slc 2 68 (some 69) none)),(3,.o 67 (.app 2 false 64 66)),(7,.o 71 (.app 2 false 67 70)),(8,.m 4 71)] [0,3,5,6,43,64,65,66,67,68,69,70,71]) .ret))
def c85:C:=
 (.q [.o 3 (.box 2 true 1),.m 4 (.c (.sl 2 true [] .ro))] [1,4] (.q [.m 5 (.k 0)] [] (.seq (.blk 0 (.loop [] c85_0)) c85_r0)))
def d85:Fn:={ real:=85,np:=2,nt:=72,res:=[.t 4],body:=c85 }
def c86:C:=
 (.q [.o 1 (.box 10 true 0),.m 2 (.c (.sl 2 true [] .ro))] [0,2] (.q [.o 3 (.ld 10 true 1),.o 4 (.bld [.i .i64 0,.i .i64 0,.i .i64 0,.sl 1 true [] .ro,.i .i64 0,.sl 4 true [] .ro,.i .i64 0,.i .i64 0,.i .i64 0,.s [],.i .i64 0] [(0,10,true,3),(10,1,false,.k 1)]),.o 5 (.bsl 11 true false [4]),.o 6 (.bld [.i .i64 0,.sl 11 true [] .ro] [(0,1,false,.k 1),(1,1,false,5)]),.o 7 (.bsl 2 true false [6]),.m 2 7] [1,3,4,5,6,7] .ret))
def d86:Fn:={ real:=86,np:=1,nt:=8,res:=[.t 2],body:=c86 }
def c87:C:=
 (.q [.m 2 (.c (.sl 1 true [] .ro))] [2] (.seq (.q [.m 3 0,.o 4 (.call 79 true [3]),.o 5 (.un .not 4)] [3,4] (.cond 5 (.q [.m 2 (.c (.sl 1 true [] .ro))] [0,5] .ret) .skip)) (.q [.m 6 0,.m 2 6] [0,5,6] .ret)))
def d87:Fn:={ real:=87,np:=1,nt:=7,res:=[.t 2],body:=c87 }
def c88_0:C:=
 .seq (.q [.m 15 8,.o 16 (.n .geq 15 (.k 0))] [15] (.cond 16 .skip (.exit 0))) (.seq (.blk 1 (.q [.m 19 7,.o 20 (.n .shl 19 (.c (.i .u64 32))),.m 21 0,.m 22 8,.o 23 (.ia 1 21 22),.o 24 (.ld 1 false 23),.o 25 (.conv .u64 24),.o 26 (.n .or 20 25),.m 7 26] [16,19,20,21,22,23,24,25,26] (.dreg [(0,.m 27 6),(1,.m 28 8),(2,.m 29 7),(3,.m 30 1),(4,.o 31 (.conv .u64 30)),(5,.o 32 (.n .quo 29 31)),(6,.o 33 (.conv .u32 32)),(7,.m 34 7),(8,.m 35 1),(9,.o 36 (.conv .u64 35)),(10,.o 37 (.n .rem 34 36)),(11,.o 38 (.ia 1 27 28)),(12,.e (.st 1 false 38 33)),(13,.m 7 37)] [27,28,29,30,31,32,33,34,35,36,37,38]))) (.reg [.m 17 8,.o 18 (.n .sub 17 (.k 1)),.m 8 18] [17,18]))
def c88_r0:C:=
 .q [.fz 6,.m 39 6,.o 40 (.call 116 true [39]),.m 41 7,.o 42 (.conv .u32 41),.m 4 40,.m 5 42] [0,1,6,7,8,16,39,40,41,42] .ret
def c88:C:=
 (.q [.m 4 (.c (.sl 1 true [] .ro)),.m 5 (.c (.i .u32 0))] [4,5] (.q [.m 9 0,.o 10 (.len false 9),.o 11 (.mksl 1 true [.i .u32 0] 10),.m 6 11] [9,10,11] (.q [.m 7 (.c (.i .u64 0))] [] (.seq (.q [.m 12 0,.o 13 (.len false 12),.o 14 (.n .sub 13 (.k 1)),.m 8 14] [12,13,14] (.blk 0 (.loop [] c88_0))) c88_r0))))
def d88:Fn:={ real:=88,np:=2,nt:=43,res:=[.t 4,.t 5],body:=c88 }
def c89:C:=
 (.q [.m 4 (.c (.s []))] [4] (.q [.m 5 0,.m 6 1,.o 7 (.call 128 true [5,6]),.m 4 7] [0,1,5,6,7] .ret))
def d89:Fn:={ real:=89,np:=2,nt:=8,res:=[.t 4],body:=c89 }
def c90:C:=
 (.bad)
def d90:Fn:={ real:=90,np:=2,nt:=125,res:=[.t 4],body:=c90 }
def c91_0:C:=
 .q [.o 9 (.n .lss 8 7)] [] (.seq (.cond 9 .skip (.exit 0)) (.seq (.blk 1 (.q [.o 10 (.ia 1 6 8),.o 11 (.ld 1 false 10),.m 5 11] [9,10,11] (.q [.m 12 5,.m 13 3,.o 14 (.bin .neq .str 12 13)] [12,13] (.cond 14 (.q [.m 15 5,.m 2 15] [3,5,6,7,8,14,15] .ret) .skip)))) (.reg [.o 16 (.n .add 8 (.k 1)),.m 8 16] [5,14,16])))
def c91_r0:C:=
 .q [.m 17 3,.m 2 17] [3,6,7,8,9,17] .ret
def c91:C:=
 (.q [.m 2 (.c (.s []))] [2] (.q [.m 3 (.c (.s []))] [] (.seq (.q [.m 6 0,.o 7 (.len false 6),.m 8 (.k 0)] [0] (.blk 0 (.loop [] c91_0))) c91_r0)))
def d91:Fn:={ real:=91,np:=1,nt:=18,res:=[.t 2],body:=c91 }
def c92:C:=
 (.q [.o 1 (.box 2 true 0),.m 2 (.c (.b false))] [0,2] (.q [.o 3 (.fa 0 1),.o 4 (.ld 1 false 3),.o 5 (.n .geq 4 (.k 1)),.m 6 5,.g 7 6 (.fa 1 1),.g 8 6 (.ld 1 false 7),.g 9 6 (.n .geq 8 (.k 1)),.o 10 (.pick 6 9 (.c (.b false))),.m 2 10] [1,3,4,5,6,7,8,9,10] .ret))
def d92:Fn:={ real:=92,np:=1,nt:=11,res:=[.t 2],body:=c92 }
def c93_0:C:=
 .seq (.q [.m 10 9,.m 11 1,.o 12 (.n .shl (.k 1) 11),.o 13 (.n .lss 10 12)] [10,11,12] (.cond 13 .skip (.exit 0))) (.seq (.blk 1 (.seq (.dreg [(0,.m 16 9),(1,.m 17 2),(2,.o 18 (.n .shl (.k 1) 17)),(3,.o 19 (.n .rem 16 18)),(4,.m 20 3),(5,.o 21 (.n .eql 19 20)),(6,.m 22 21),(7,.g 23 22 (.mv 0)),(8,.g 24 22 (.mv 9)),(9,.g 25 22 (.ia 1 23 24)),(10,.g 26 22 (.ld 1 false 25)),(11,.g 27 22 (.mv 0)),(12,.g 28 22 (.mv 3)),(13,.g 29 22 (.ia 1 27 28)),(14,.g 30 22 (.ld 1 false 29)),(15,.g 31 22 (.bin .neq .bool 26 30)),(16,.o 32 (.pick 22 31 (.c (.b false))))] [13,16,17,18,19,20,21,22,23,24,25,26,27,28,29,30,31]) (.cond 32 (.q [.m 8 (.c (.b false))] [0,1,2,3,9,32] .ret) .skip))) (.reg [.m 14 9,.o 15 (.n .add 14 (.k 1)),.m 9 15] [14,15,32]))
def c93_r0:C:=
 .q [.m 8 (.c (.b true))] [0,1,2,3,9,13] .ret
def c93:C:=
 (.q [.m 8 (.c (.b false))] [8] (.seq (.q [.m 9 (.k 0)] [] (.blk 0 (.loop [] c93_0))) c93_r0))
def d93:Fn:={ real:=93,np:=4,nt:=33,res:=[.t 8],body:=c93 }
def c94:C:=
 (.q [.m 10 (.k 0)] [10] (.seq (.q [.m 20 0,.o 21 (.ld 1 false 2),.o 22 (.n .eql 20 21),.m 23 22,.h 24 23 (.mv 1),.h 25 23 (.ld 1 false 2),.h 26 23 (.n .eql 24 25),.o 27 (.pick 23 (.c (.b true)) 26)] [20,21,22,23,24,25,26] (.cond 27 (.q [.o 28 (.ld 1 false 2),.m 10 28] [0,1,2,3,4,5,6,7,27,28] .ret) .skip)) (.seq (.q [.m 29 0,.o 30 (.n .lss 29 (.k 2)),.m 31 30,.g 32 31 (.mv 1),.g 33 31 (.n .lss 32 (.k 2)),.o 34 (.pick 31 33 (.c (.b false)))] [27,29,30,31,32,33] (.cond 34 (.q [.o 35 (.ld 1 false 2),.o 36 (.n .sub (.k 1) 35),.m 10 36] [0,1,2,3,4,5,6,7,34,35,36] .ret) .skip)) (.seq (.q [.o 38 (.ld 1 false 3),.m 39 0,.m 40 1,.o 41 (.bld [.i .i64 0,.i .i64 0] [(0,1,false,39),(1,1,false,40)]),.o 42 (.lk (.agg [.i,.i]) true (.i .i64 0) 38 41),.m 37 42,.o 43 (.ext 37 0),.o 44 (.ext 37 1),.m 11 43,.m 12 44] [2,34,37,38,39,40,41,42,43,44] (.q [.m 45 12] [12] (.cond 45 (.q [.m 46 11,.m 10 46] [0,1,3,4,5,6,7,11,45,46] .ret) .skip))) (.seq (.dreg [(0,.o 47 (.ld 3 true 4)),(1,.m 48 0),(2,.o 49 (.call 77 true [47,48])),(3,.o 50 (.ld 3 true 5)),(4,.m 51 1),(5,.o 52 (.call 77 true [50,51])),(6,.o 53 (.mn 49 52)),(7,.m 13 53)] [11,45,47,48,49,50,51,52,53]) (.q [.o 55 (.ld 3 true 4),.m 56 0,.m 57 13,.o 58 (.call 95 true [55,56,57]),.m 54 58,.o 59 (.ext 54 0),.o 60 (.ext 54 1),.m 14 59,.m 15 60] [4,54,55,56,57,58,59,60] (.q [.o 62 (.ld 3 true 5),.m 63 1,.m 64 13,.o 65 (.call 95 true [62,63,64]),.m 61 65,.o 66 (.ext 61 0),.o 67 (.ext 61 1),.m 16 66,.m 17 67] [5,61,62,63,64,65,66,67] (.seq (.dreg [(0,.o 68 (.ld 1 false 6)),(1,.m 69 14),(2,.m 70 16),(4,.o 72 (.ld 1 false 6)),(5,.m 73 15),(6,.m 74 17),(3,.o 71 (.calld 68 false [69,70])),(4,.ck 72 (.ld 1 false 6)),(7,.o 75 (.calld 72 false [73,74])),(8,.m 18 71),(9,.m 19 75)] [6,14,15,16,17,68,69,70,71,72,73,74,75]) (.seq (.dreg [(0,.o 76 (.ld 1 false 3)),(1,.m 77 0),(2,.m 78 1),(3,.o 79 (.bld [.i .i64 0,.i .i64 0] [(0,1,false,77),(1,1,false,78)])),(4,.m 80 13),(5,.m 81 18),(6,.m 82 19),(7,.o 83 (.call 80 false [7,80,81,82])),(0,.ck 76 (.ld 1 false 3)),(8,.e (.mu (.agg [.i,.i]) 76 79 83))] [7,13,18,19,76,77,78,79,80,81,82,83]) (.q [.o 84 (.ld 1 false 3),.m 85 0,.m 86 1,.o 87 (.bld [.i .i64 0,.i .i64 0] [(0,1,false,85),(1,1,false,86)]),.o 88 (.lk (.agg [.i,.i]) false (.i .i64 0) 84 87),.m 10 88] [0,1,3,84,85,86,87,88] .ret))))))))))
def d94:Fn:={ real:=94,np:=8,nt:=89,res:=[.t 10],body:=c94 }
def c95:C:=
 (.q [.o 3 (.box 3 true 0),.m 6 (.k 0),.m 7 (.k 0)] [0,6,7] (.seq (.q [.o 9 (.ld 3 true 3),.m 10 1,.o 11 (.call 77 true [9,10]),.m 12 2,.o 13 (.n .neq 11 12)] [2,9,10,11,12] (.cond 13 (.q [.m 14 1,.m 15 1,.m 6 14,.m 7 15] [1,3,13,14,15] .ret) .skip)) (.q [.o 16 (.fa 1 3),.o 17 (.ld 1 false 16),.m 18 1,.o 19 (.n .sub 18 (.k 2)),.o 20 (.ia 3 17 19),.o 21 (.ld 3 true 20),.o 8 (.alloc [.i .i64 0,.i .i64 0,.i .i64 0]),.e (.st 3 true 8 21)] [1,3,13,16,17,18,19,20,21] (.seq (.dreg [(0,.o 22 (.fa 1 8)),(1,.o 23 (.ld 1 false 22)),(2,.o 24 (.fa 2 8)),(3,.o 25 (.ld 1 false 24)),(4,.m 6 23),(5,.m 7 25)] [8,22,23,24,25]) .ret))))
def d95:Fn:={ real:=95,np:=3,nt:=26,res:=[.t 6,.t 7],body:=c95 }
def c96:C:=
 (.q [.m 2 (.c (.b false))] [2] (.seq (.q [.m 3 0,.o 4 (.len false 3),.o 5 (.n .gtr 4 (.k 512)),.m 6 5,.h 7 6 (.mv 0),.h 8 6 (.call 135 true [7]),.h 9 6 (.n .gtr 8 (.k 8)),.o 10 (.pick 6 (.c (.b true)) 9),.m 11 10,.h 12 11 (.mv 0),.h 13 11 (.call 136 true [12]),.h 14 11 (.n .gtr 13 (.k 4096)),.o 15 (.pick 11 (.c (.b true)) 14)] [3,4,5,6,7,8,9,10,11,12,13,14] (.cond 15 (.q [.m 2 (.c (.b false))] [0,15] .ret) .skip)) (.q [.m 16 0,.o 17 (.call 137 true [16,.c (.fn 138 [])]),.o 18 (.un .not 17),.m 2 18] [0,15,16,17,18] .ret)))
def d96:Fn:={ real:=96,np:=1,nt:=19,res:=[.t 2],body:=c96 }
def c97:C:=
 (.q [.o 2 (.box 2 true 0),.o 3 (.box 2 true 1),.m 4 (.k 0)] [0,1,4] (.q [.o 5 (.fa 1 2),.o 6 (.ld 1 false 5),.o 7 (.fa 1 3),.o 8 (.ld 1 false 7),.o 9 (.call 141 true [6,8,.c (.fn 142 [])]),.m 4 9] [2,3,5,6,7,8,9] .ret))
def d97:Fn:={ real:=97,np:=2,nt:=10,res:=[.t 4],body:=c97 }
def c98:C:=
 (.q [.o 1 (.box 10 true 0),.m 2 (.c (.b false))] [0,2] (.q [.o 3 (.fa 0 1),.o 4 (.ld 1 false 3),.o 5 (.n .eql 4 (.k 3)),.m 6 5,.h 7 6 (.fa 0 1),.h 8 6 (.ld 1 false 7),.h 9 6 (.n .eql 8 (.k 4)),.o 10 (.pick 6 (.c (.b true)) 9),.m 2 10] [1,3,4,5,6,7,8,9,10] .ret))
def d98:Fn:={ real:=98,np:=1,nt:=11,res:=[.t 2],body:=c98 }
def c99:C:=
 (.q [.o 2 (.box 10 true 0),.o 3 (.box 10 true 1),.m 4 (.k 0)] [0,1,4] (.seq (.dreg [(0,.o 5 (.fa 0 2)),(1,.o 6 (.ld 1 false 5)),(2,.o 7 (.fa 0 3)),(3,.o 8 (.ld 1 false 7)),(4,.o 9 (.call 144 true [6,8])),(5,.o 10 (.fa 1 2)),(6,.o 11 (.fa 0 10)),(7,.o 12 (.ld 1 false 11)),(8,.o 13 (.fa 1 3)),(9,.o 14 (.fa 0 13)),(10,.o 15 (.ld 1 false 14)),(11,.o 16 (.call 144 true [12,15])),(12,.o 17 (.fa 1 2)),(13,.o 18 (.fa 1 17)),(14,.o 19 (.ld 1 false 18)),(15,.o 20 (.fa 1 3)),(16,.o 21 (.fa 1 20)),(17,.o 22 (.ld 1 false 21)),(18,.o 23 (.call 144 true [19,22])),(19,.o 24 (.fa 3 2)),(20,.o 25 (.ld 1 false 24)),(21,.o 26 (.fa 3 3)),(22,.o 27 (.ld 1 false 26)),(23,.o 28 (.call 145 true [25,27,.c (.fn 146 [])])),(24,.o 29 (.fa 4 2)),(25,.o 30 (.ld 1 false 29)),(26,.o 31 (.fa 4 3)),(27,.o 32 (.ld 1 false 31)),(28,.o 33 (.call 144 true [30,32])),(29,.o 34 (.fa 5 2)),(30,.o 35 (.ld 1 false 34)),(31,.o 36 (.fa 5 3)),(32,.o 37 (.ld 1 false 36)),(33,.o 38 (.call 147 true [35,37,.c (.fn 148 [])])),(34,.o 39 (.fa 6 2)),(35,.o 40 (.ld 1 false 39)),(36,.o 41 (.fa 6 3)),(37,.o 42 (.ld 1 false 41)),(38,.o 43 (.call 144 true [40,42])),(39,.o 44 (.fa 7 2)),(40,.o 45 (.ld 3 true 44)),(41,.o 46 (.fa 7 3)),(42,.o 47 (.ld 3 true 46)),(43,.o 48 (.call 149 true [45,47])),(44,.o 49 (.bsl 1 false false [9,16,23,28,33,38,43,48])),(45,.o 50 (.call 143 true [49])),(46,.m 4 50)] [2,3,5,6,7,8,9,10,11,12,13,14,15,16,17,18,19,20,21,22,23,24,25,26,27,28,29,30,31,32,33,34,35,36,37,38,39,40,41,42,43,44,45,46,47,48,49,50]) .ret))
def d99:Fn:={ real:=99,np:=2,nt:=51,res:=[.t 4],body:=c99 }
def c100:C:=
 (.q [.o 1 (.box 10 true 0),.m 2 (.c (.b false))] [0,2] (.q [.o 5 (.fa 0 1),.o 6 (.ld 1 false 5),.o 7 (.n .neq 6 (.k 4)),.m 8 7,.g 9 8 (.fa 4 1),.g 10 8 (.ld 1 false 9),.g 11 8 (.n .neq 10 (.k 0)),.g 12 8 (.mv 11),.h 13 12 (.fa 5 1),.h 14 12 (.ld 1 false 13),.h 15 12 (.len false 14),.h 16 12 (.n .neq 15 (.k 0)),.g 17 8 (.pick 12 (.c (.b true)) 16),.g 18 8 (.mv 17),.h 19 18 (.fa 6 1),.h 20 18 (.ld 1 false 19),.h 21 18 (.n .neq 20 (.k 0)),.g 22 8 (.pick 18 (.c (.b true)) 21),.g 23 8 (.mv 22),.h 24 23 (.fa 7 1),.h 25 23 (.ld 3 true 24),.h 26 23 (.bld [.i .i64 0,.i .i64 0,.s []] []),.h 27 23 (.bin .neq (.agg [.i,.i,.s]) 25 26),.g 28 8 (.pick 23 (.c (.b true)) 27),.o 29 (.pick 8 28 (.c (.b false))),.m 3 29] [5,6,7,8,9,10,11,12,13,14,15,16,17,18,19,20,21,22,23,24,25,26,27,28,29] (.seq (.q [.m 30 3,.m 31 30,.h 32 31 (.fa 0 1),.h 33 31 (.ld 1 false 32),.h 34 31 (.n .neq 33 (.k 0)),.h 35 31 (.mv 34),.g 36 35 (.fa 1 1),.g 37 35 (.ld 2 true 36),.g 38 35 (.bld [.i .i64 0,.i .i64 0] []),.g 39 35 (.bin .neq (.agg [.i,.i]) 37 38),.h 40 31 (.pick 35 39 (.c (.b false))),.o 41 (.pick 31 (.c (.b true)) 40),.m 42 41,.h 43 42 (.fa 3 1),.h 44 42 (.ld 1 false 43),.h 45 42 (.call 101 true [44,.c (.fn 150 [])]),.o 46 (.pick 42 (.c (.b true)) 45)] [3,30,31,32,33,34,35,36,37,38,39,40,41,42,43,44,45] (.cond 46 (.q [.m 2 (.c (.b false))] [1,46] .ret) .skip)) (.seq (.q [.o 47 (.fa 0 1),.o 48 (.ld 1 false 47)] [46,47] (.blk 0 (.q [.o 50 (.n .eql 48 (.k 0)),.m 49 50] [50] (.cond 49 (.q [.o 51 (.fa 1 1),.o 52 (.ld 2 true 51),.o 53 (.call 92 true [52]),.m 54 53,.g 55 54 (.fa 3 1),.g 56 54 (.ld 1 false 55),.g 57 54 (.len false 56),.g 58 54 (.n .eql 57 (.k 0)),.o 59 (.pick 54 58 (.c (.b false))),.m 2 59] [1,48,49,51,52,53,54,55,56,57,58,59] .ret) (.q [.o 61 (.n .eql 48 (.k 1)),.m 60 61] [49,61] (.cond 60 (.seq (.dreg [(0,.o 62 (.fa 3 1)),(1,.o 63 (.ld 1 false 62)),(2,.o 64 (.len false 63)),(3,.o 65 (.n .eql 64 (.k 2))),(4,.m 66 65),(5,.g 67 66 (.fa 3 1)),(6,.g 68 66 (.ld 1 false 67)),(7,.g 69 66 (.ia 1 68 (.k 0))),(8,.g 70 66 (.ld 1 false 69)),(9,.g 71 66 (.fa 3 1)),(10,.g 72 66 (.ld 1 false 71)),(11,.g 73 66 (.ia 1 72 (.k 1))),(12,.g 74 66 (.ld 1 false 73)),(13,.g 75 66 (.call 151 true [70,74])),(14,.g 76 66 (.un .not 75)),(15,.o 77 (.pick 66 76 (.c (.b false)))),(16,.m 2 77)] [1,48,60,62,63,64,65,66,67,68,69,70,71,72,73,74,75,76,77]) .ret) (.q [.o 79 (.n .eql 48 (.k 2)),.m 78 79] [60,79] (.cond 78 (.q [.o 80 (.fa 3 1),.o 81 (.ld 1 false 80),.o 82 (.len false 81),.o 83 (.n .eql 82 (.k 1)),.m 84 83,.g 85 84 (.fa 3 1),.g 86 84 (.ld 1 false 85),.g 87 84 (.ia 1 86 (.k 0)),.g 88 84 (.ld 1 false 87),.g 89 84 (.call 152 true [88]),.g 90 84 (.un .not 89),.o 91 (.pick 84 90 (.c (.b false))),.m 92 91,.g 93 92 (.fa 3 1),.g 94 92 (.ld 1 false 93),.g 95 92 (.ia 1 94 (.k 0)),.g 96 92 (.ld 1 false 95),.g 97 92 (.call 153 true [96]),.g 98 92 (.un .not 97),.o 99 (.pick 92 98 (.c (.b false))),.m 2 99] [1,48,78,80,81,82,83,84,85,86,87,88,89,90,91,92,93,94,95,96,97,98,99] .ret) (.q [.o 101 (.n .eql 48 (.k 3)),.m 100 101] [78,101] (.cond 100 (.q [.o 102 (.fa 3 1),.o 103 (.ld 1 false 102),.o 104 (.len false 103),.o 105 (.n .eql 104 (.k 1)),.m 106 105,.g 107 106 (.fa 3 1),.g 108 106 (.ld 1 false 107),.g 109 106 (.ia 1 108 (.k 0)),.g 110 106 (.ld 1 false 109),.g 111 106 (.call 154 true [110]),.g 112 106 (.un .not 111),.o 113 (.pick 106 112 (.c (.b false))),.m 2 113] [1,48,100,102,103,104,105,106,107,108,109,110,111,112,113] .ret) (.q [.o 115 (.n .eql 48 (.k 4)),.m 114 115] [48,100,115] (.cond 114 (.q [.o 116 (.fa 5 1),.o 117 (.ld 1 false 116),.o 118 (.call 155 true [117,.c (.fn 156 [])]),.m 4 118] [114,116,117,118] (.q [.o 119 (.fa 3 1),.o 120 (.ld 1 false 119),.o 121 (.len false 120),.o 122 (.n .eql 121 (.k 0)),.m 123 122,.g 124 123 (.fa 5 1),.g 125 123 (.ld 1 false 124),.g 126 123 (.len false 125),.g 127 123 (.n .gtr 126 (.k 0)),.o 128 (.pick 123 127 (.c (.b false))),.m 129 128,.g 130 129 (.mv 4),.g 131 129 (.un .not 130),.o 132 (.pick 129 131 (.c (.b false))),.m 133 132,.g 134 133 (.fa 5 1),.g 135 133 (.ld 1 false 134),.g 136 133 (.call 157 true [135,.c (.fn 148 [])]),.o 137 (.pick 133 136 (.c (.b false))),.m 138 137,.g 139 138 (.fa 4 1),.g 140 138 (.ld 1 false 139),.g 141 138 (.fa 5 1),.g 142 138 (.ld 1 false 141),.g 143 138 (.fa 6 1),.g 144 138 (.ld 1 false 143),.g 145 138 (.fa 7 1),.g 146 138 (.ld 3 true 145),.g 147 138 (.call 158 true [140,142,144,146]),.o 148 (.pick 138 147 (.c (.b false))),.m 2 148] [1,4,119,120,121,122,123,124,125,126,127,128,129,130,131,132,133,134,135,136,137,138,139,140,141,142,143,144,145,146,147,148] .ret)) .skip)))))))))))) (.q [.m 2 (.c (.b false))] [1,114] .ret)))))
def d100:Fn:={ real:=100,np:=1,nt:=149,res:=[.t 2],body:=c100 }
def c101:C:=
 (.q [.m 4 (.c (.b false))] [4] (.q [.m 5 0,.m 6 1,.o 7 (.call 159 true [5,6]),.o 8 (.n .geq 7 (.k 0)),.m 4 8] [0,1,5,6,7,8] .ret))
def d101:Fn:={ real:=101,np:=2,nt:=9,res:=[.t 4],body:=c101 }
def c102_0:C:=
 .q [.o 9 (.n .lss 8 7)] [] (.seq (.cond 9 .skip (.exit 0)) (.seq (.blk 1 (.q [.m 10 8,.m 5 10] [9,10] (.q [.m 11 1,.m 12 0,.m 13 5,.o 14 (.ia 2 12 13),.o 15 (.ld 2 true 14),.o 16 (.calld 11 false [15])] [11,12,13,14,15] (.cond 16 (.q [.m 17 5,.m 4 17] [0,1,5,7,8,16,17] .ret) .skip)))) (.reg [.o 18 (.n .add 8 (.k 1)),.m 8 18] [5,16,18])))
def c102_r0:C:=
 .q [.o 4 (.mv (.k (-1)))] [0,1,7,8,9] .ret
def c102:C:=
 (.q [.m 4 (.k 0)] [4] (.seq (.q [.m 6 0,.o 7 (.len false 6),.m 8 (.k 0)] [6] (.blk 0 (.loop [] c102_0))) c102_r0))
def d102:Fn:={ real:=102,np:=2,nt:=19,res:=[.t 4],body:=c102 }
def c103_0:C:=
 .q [.o 46 (.n .lss 45 44)] [] (.seq (.cond 46 .skip (.exit 6)) (.seq (.blk 7 (.q [.o 47 (.ia 4 43 45),.o 48 (.ld 4 true 47),.o 11 (.alloc [.i .i64 0,.i .i64 0,.s [],.sl 2 true [] .ro]),.e (.st 4 true 11 48)] [46,47,48] (.reg [.o 49 (.fa 3 11),.o 50 (.ld 1 false 49),.m 51 1,.o 52 (.call 103 false [50,51])] [11,49,50,51,52]))) (.reg [.o 53 (.n .add 45 (.k 1)),.m 45 53] [53])))
def c103_1:C:=
 .q [.o 34 (.n .lss 33 32)] [] (.seq (.cond 34 .skip (.exit 4)) (.seq (.blk 5 (.q [.o 35 (.ia 1 31 33),.o 36 (.ld 1 false 35),.m 9 36] [34,35,36] (.reg [.m 37 9,.m 38 1,.o 39 (.call 103 false [37,38])] [9,37,38,39]))) (.reg [.o 40 (.n .add 33 (.k 1)),.m 33 40] [40])))
def c103_r0:C:=
 .q [.o 41 (.fa 0 7),.o 42 (.fa 5 41),.o 43 (.ld 1 false 42),.o 44 (.len false 43),.m 45 (.k 0)] [7,31,32,33,34,41,42] (.blk 6 (.loop [] c103_0))
def c103_r1:C:=
 .reg [.o 54 (.n .add 21 (.k 1)),.m 21 54] [43,44,45,46,54]
def c103_2:C:=
 .q [.o 22 (.n .lss 21 20)] [] (.seq (.cond 22 .skip (.exit 2)) (.seq (.blk 3 (.q [.o 23 (.ia 11 19 21),.o 24 (.ld 11 true 23),.o 7 (.alloc [.i .i64 0,.i .i64 0,.i .i64 0,.sl 1 true [] .ro,.i .i64 0,.sl 4 true [] .ro,.i .i64 0,.i .i64 0,.i .i64 0,.s [],.i .i64 0]),.e (.st 11 true 7 24)] [22,23,24] (.q [.m 25 1,.o 26 (.fa 0 7),.o 27 (.ld 10 true 26),.o 28 (.calld 25 false [27])] [25,26,27,28] (.seq (.q [.o 29 (.fa 0 7),.o 30 (.fa 3 29),.o 31 (.ld 1 false 30),.o 32 (.len false 31),.m 33 (.k 0)] [29,30] (.blk 4 (.loop [] c103_1))) c103_r0)))) c103_r1))
def c103_r2:C:=
 .reg [.o 55 (.n .add 14 (.k 1)),.m 14 55] [19,20,21,22,55]
def c103_3:C:=
 .q [.o 15 (.n .lss 14 13)] [] (.seq (.cond 15 .skip (.exit 0)) (.seq (.blk 1 (.q [.o 16 (.ia 2 12 14),.o 17 (.ld 2 true 16),.o 5 (.alloc [.i .i64 0,.sl 11 true [] .ro]),.e (.st 2 true 5 17)] [15,16,17] (.q [.o 18 (.fa 1 5),.o 19 (.ld 1 false 18),.o 20 (.len false 19),.m 21 (.k 0)] [5,18] (.blk 2 (.loop [] c103_2))))) c103_r2))
def c103:C:=
 (.q [.m 12 0,.o 13 (.len false 12),.m 14 (.k 0)] [0] (.blk 0 (.loop [] c103_3)))
def d103:Fn:={ real:=103,np:=2,nt:=56,res:=[],body:=c103 }
def c104:C:=
 (.q [.o 2 (.box 10 true 0)] [0] (.q [.o 3 (.fa 0 2),.o 4 (.ld 1 false 3),.o 5 (.n .eql 4 (.k 0))] [3,4] (.cond 5 (.reg [.o 6 (.ld 1 false 1),.o 7 (.fa 1 2),.o 8 (.ld 2 true 7),.o 9 (.bsl 2 true false [8]),.o 10 (.app 2 false 6 9),.e (.st 1 false 1 10)] [1,2,5,6,7,8,9,10]) .skip)))
def d104:Fn:={ real:=104,np:=2,nt:=11,res:=[],body:=c104 }
def c105_0:C:=
 .q [.o 18 (.n .lss 17 16)] [] (.seq (.cond 18 .skip (.exit 0)) (.seq (.blk 1 (.q [.o 19 (.ia 11 15 17),.o 20 (.ld 11 true 19),.o 8 (.alloc [.i .i64 0,.i .i64 0,.i .i64 0,.sl 1 true [] .ro,.i .i64 0,.sl 4 true [] .ro,.i .i64 0,.i .i64 0,.i .i64 0,.s [],.i .i64 0]),.e (.st 11 true 8 20)] [18,19,20] (.q [.o 22 (.ld 2 true 2),.o 23 (.fa 0 8),.o 24 (.ld 10 true 23),.o 25 (.call 160 true [22,24]),.m 21 25,.o 26 (.ext 21 0),.o 27 (.ext 21 1),.o 9 (.alloc [.sl 2 true [] .ro,.sl 3 true [] .ro,.i .i64 0]),.e (.st 3 true 9 26),.m 10 27] [8,21,22,23,24,25,26,27] (.seq (.q [.m 28 10,.o 29 (.n .neq 28 (.k 0))] [28] (.cond 29 (.q [.o 30 (.bld [.sl 2 true [] .ro,.sl 3 true [] .ro,.i .i64 0] []),.m 31 10,.e (.st 3 true 4 30),.m 5 31] [2,6,9,10,15,16,17,29,30,31] .ret) .skip)) (.seq (.dreg [(0,.o 33 (.ld 2 true 2)),(1,.o 34 (.ld 3 true 6)),(2,.o 35 (.ld 3 true 9)),(3,.o 36 (.call 21 true [34,35])),(4,.o 37 (.ext 36 0)),(5,.o 38 (.ext 36 1)),(6,.o 39 (.call 106 true [33,37,38])),(7,.m 32 39),(8,.o 40 (.ext 32 0)),(9,.o 41 (.ext 32 1)),(10,.e (.st 3 true 6 40)),(11,.m 10 41)] [9,29,32,33,34,35,36,37,38,39,40,41]) (.q [.m 42 10,.o 43 (.n .neq 42 (.k 0))] [42] (.cond 43 (.q [.o 44 (.bld [.sl 2 true [] .ro,.sl 3 true [] .ro,.i .i64 0] []),.m 45 10,.e (.st 3 true 4 44),.m 5 45] [2,6,10,15,16,17,43,44,45] .ret) .skip))))))) (.reg [.o 46 (.n .add 17 (.k 1)),.m 17 46] [10,43,46])))
def c105_r0:C:=
 .q [.o 47 (.ld 3 true 6),.e (.st 3 true 4 47),.m 5 (.k 0)] [2,6,15,16,17,18,47] .ret
def c105:C:=
 (.q [.o 2 (.box 2 true 0),.o 3 (.box 2 true 1),.o 4 (.alloc [.sl 2 true [] .ro,.sl 3 true [] .ro,.i .i64 0]),.m 5 (.k 0)] [0,1,5] (.q [.o 11 (.fa 0 2),.o 12 (.ld 1 false 11),.o 13 (.call 13 true [12,.c (.b true)]),.o 6 (.alloc [.sl 2 true [] .ro,.sl 3 true [] .ro,.i .i64 0]),.e (.st 3 true 6 13)] [11,12,13] (.seq (.q [.o 14 (.fa 1 3),.o 15 (.ld 1 false 14),.o 16 (.len false 15),.m 17 (.k 0)] [3,14] (.blk 0 (.loop [] c105_0))) c105_r0)))
def d105:Fn:={ real:=105,np:=2,nt:=48,res:=[.cell 4 3 true,.t 5],body:=c105 }
def c106:C:=
 (.q [.o 3 (.box 2 true 0),.o 4 (.box 3 true 1),.o 6 (.alloc [.sl 2 true [] .ro,.sl 3 true [] .ro,.i .i64 0]),.m 7 (.k 0)] [0,1,7] (.seq (.q [.m 8 2,.o 9 (.n .eql 8 (.k 0)),.m 10 9,.g 11 10 (.fa 1 4),.g 12 10 (.ld 1 false 11),.g 13 10 (.len false 12),.g 14 10 (.fa 1 3),.g 15 10 (.ld 1 false 14),.g 16 10 (.n .gtr 13 15),.o 17 (.pick 10 16 (.c (.b false)))] [3,8,9,10,11,12,13,14,15,16] (.cond 17 (.q [.o 18 (.bld [.sl 2 true [] .ro,.sl 3 true [] .ro,.i .i64 0] []),.e (.st 3 true 6 18),.m 7 (.k 6)] [2,4,17,18] .ret) .skip)) (.q [.o 19 (.ld 3 true 4),.m 20 2,.e (.st 3 true 6 19),.m 7 20] [2,4,17,19,20] .ret)))
def d106:Fn:={ real:=106,np:=3,nt:=21,res:=[.cell 6 3 true,.t 7],body:=c106 }
def c107_0:C:=
 .seq (.q [.m 31 4,.m 32 0,.m 33 3,.o 34 (.ia 2 32 33),.o 35 (.fa 1 34),.o 36 (.ld 1 false 35),.o 37 (.len false 36),.o 38 (.n .lss 31 37)] [31,32,33,34,35,36,37] (.cond 38 .skip (.exit 2))) (.seq (.blk 3 (.q [.m 41 0,.m 42 3,.o 43 (.ia 2 41 42),.o 44 (.fa 1 43),.o 45 (.ld 1 false 44),.m 46 4,.o 47 (.ia 11 45 46),.o 48 (.fa 10 47),.o 49 (.ld 1 false 48),.o 50 (.n .gtr 49 (.k 64)),.m 51 50,.h 52 51 (.mv 0),.h 53 51 (.mv 3),.h 54 51 (.ia 2 52 53),.h 55 51 (.fa 1 54),.h 56 51 (.ld 1 false 55),.h 57 51 (.mv 4),.h 58 51 (.ia 11 56 57),.h 59 51 (.fa 0 58),.h 60 51 (.fa 5 59),.h 61 51 (.ld 1 false 60),.h 62 51 (.len false 61),.h 63 51 (.n .gtr 62 (.k 1024)),.o 64 (.pick 51 (.c (.b true)) 63)] [38,41,42,43,44,45,46,47,48,49,50,51,52,53,54,55,56,57,58,59,60,61,62,63] (.cond 64 (.q [.m 2 (.c (.b false))] [0,3,4,64] .ret) .skip))) (.reg [.m 39 4,.o 40 (.n .add 39 (.k 1)),.m 4 40] [39,40,64]))
def c107_r0:C:=
 .reg [.m 22 3,.o 23 (.n .add 22 (.k 1)),.m 3 23] [4,22,23,38]
def c107_1:C:=
 .seq (.q [.m 18 3,.m 19 0,.o 20 (.len false 19),.o 21 (.n .lss 18 20)] [18,19,20] (.cond 21 .skip (.exit 0))) (.seq (.blk 1 (.seq (.q [.m 24 0,.m 25 3,.o 26 (.ia 2 24 25),.o 27 (.fa 1 26),.o 28 (.ld 1 false 27),.o 29 (.len false 28),.o 30 (.n .gtr 29 (.k 64))] [21,24,25,26,27,28,29] (.cond 30 (.q [.m 2 (.c (.b false))] [0,3,30] .ret) .skip)) (.q [.m 4 (.k 0)] [30] (.blk 2 (.loop [] c107_0))))) c107_r0)
def c107_r1:C:=
 .q [.m 2 (.c (.b true))] [0,3,21] .ret
def c107:C:=
 (.q [.m 2 (.c (.b false))] [2] (.seq (.q [.m 5 0,.o 6 (.len false 5),.o 7 (.n .gtr 6 (.k 512)),.m 8 7,.h 9 8 (.mv 0),.h 10 8 (.call 161 true [9]),.h 11 8 (.n .gtr 10 (.k 8)),.o 12 (.pick 8 (.c (.b true)) 11),.m 13 12,.h 14 13 (.mv 0),.h 15 13 (.call 162 true [14]),.h 16 13 (.n .gtr 15 (.k 4096)),.o 17 (.pick 13 (.c (.b true)) 16)] [5,6,7,8,9,10,11,12,13,14,15,16] (.cond 17 (.q [.m 2 (.c (.b false))] [0,17] .ret) .skip)) (.seq (.q [.m 3 (.k 0)] [17] (.blk 0 (.loop [] c107_1))) c107_r1)))
def d107:Fn:={ real:=107,np:=1,nt:=65,res:=[.t 2],body:=c107 }
def c108_0:C:=
 .seq (.q [.m 8 5,.m 9 0,.o 10 (.len false 9),.o 11 (.n .lss 8 10),.m 12 11,.g 13 12 (.mv 5),.g 14 12 (.mv 1),.g 15 12 (.len false 14),.g 16 12 (.n .lss 13 15),.o 17 (.pick 12 16 (.c (.b false)))] [8,9,10,11,12,13,14,15,16] (.cond 17 .skip (.exit 0))) (.seq (.blk 1 (.seq (.seq (.dreg [(0,.m 20 0),(1,.m 21 5),(2,.o 22 (.ia 11 20 21)),(3,.o 23 (.fa 0 22)),(4,.o 24 (.ld 10 true 23)),(5,.m 25 1),(6,.m 26 5),(7,.o 27 (.ia 11 25 26)),(8,.o 28 (.fa 0 27)),(9,.o 29 (.ld 10 true 28)),(10,.o 30 (.call 110 true [24,29])),(11,.m 6 30)] [17,20,21,22,23,24,25,26,27,28,29,30]) (.q [.m 31 6,.o 32 (.n .neq 31 (.k 0))] [31] (.cond 32 (.q [.m 33 6,.m 4 33] [0,1,5,6,32,33] .ret) .skip))) (.seq (.dreg [(0,.m 34 0),(1,.m 35 5),(2,.o 36 (.ia 11 34 35)),(3,.o 37 (.fa 10 36)),(4,.o 38 (.ld 1 false 37)),(5,.m 39 1),(6,.m 40 5),(7,.o 41 (.ia 11 39 40)),(8,.o 42 (.fa 10 41)),(9,.o 43 (.ld 1 false 42)),(10,.o 44 (.call 163 true [38,43])),(11,.m 7 44)] [6,32,34,35,36,37,38,39,40,41,42,43,44]) (.q [.m 45 7,.o 46 (.n .neq 45 (.k 0))] [45] (.cond 46 (.q [.m 47 7,.m 4 47] [0,1,5,7,46,47] .ret) .skip))))) (.reg [.m 18 5,.o 19 (.n .add 18 (.k 1)),.m 5 19] [7,18,19,46]))
def c108_r0:C:=
 .q [.m 48 0,.o 49 (.len false 48),.m 50 1,.o 51 (.len false 50),.o 52 (.call 163 true [49,51]),.m 4 52] [0,1,5,17,48,49,50,51,52] .ret
def c108:C:=
 (.q [.m 4 (.k 0)] [4] (.seq (.q [.m 5 (.k 0)] [] (.blk 0 (.loop [] c108_0))) c108_r0))
def d108:Fn:={ real:=108,np:=2,nt:=53,res:=[.t 4],body:=c108 }
def c109_0:C:=
 .seq (.q [.m 161 4,.o 162 (.fa 5 1),.o 163 (.ld 1 false 162),.o 164 (.len false 163),.o 165 (.n .lss 161 164)] [161,162,163,164] (.cond 165 .skip (.exit 3))) (.seq (.blk 4 (.seq (.dreg [(0,.o 168 (.fa 5 1)),(1,.o 169 (.ld 1 false 168)),(2,.m 170 4),(3,.o 171 (.ia 4 169 170)),(4,.o 172 (.fa 3 171)),(5,.o 173 (.ld 1 false 172)),(6,.o 174 (.len false 173)),(7,.o 175 (.n .eql 174 (.k 0))),(8,.m 176 175),(9,.h 177 176 (.fa 5 1)),(10,.h 178 176 (.ld 1 false 177)),(11,.h 179 176 (.mv 4)),(12,.h 180 176 (.ia 4 178 179)),(13,.h 181 176 (.fa 3 180)),(14,.h 182 176 (.ld 1 false 181)),(15,.h 183 176 (.call 67 true [182])),(16,.h 184 176 (.un .not 183)),(17,.o 185 (.pick 176 (.c (.b true)) 184)),(18,.m 186 185),(19,.h 187 186 (.mv 4)),(20,.h 188 186 (.n .gtr 187 (.k 0))),(21,.h 189 186 (.mv 188)),(22,.g 190 189 (.fa 5 1)),(23,.g 191 189 (.ld 1 false 190)),(24,.g 192 189 (.mv 4)),(25,.g 193 189 (.n .sub 192 (.k 1))),(26,.g 194 189 (.mv 4)),(27,.g 195 189 (.slc 4 191 (some 193) (some 194))),(28,.g 196 189 (.fa 5 1)),(29,.g 197 189 (.ld 1 false 196)),(30,.g 198 189 (.mv 4)),(31,.g 199 189 (.mv 4)),(32,.g 200 189 (.n .add 199 (.k 1))),(33,.g 201 189 (.slc 4 197 (some 198) (some 200))),(34,.g 202 189 (.call 169 true [195,201])),(35,.g 203 189 (.n .gtr 202 (.k 0))),(36,.h 204 186 (.pick 189 203 (.c (.b false)))),(37,.o 205 (.pick 186 (.c (.b true)) 204))] [165,168,169,170,171,172,173,174,175,176,177,178,179,180,181,182,183,184,185,186,187,188,189,190,191,192,193,194,195,196,197,198,199,200,201,202,203,204]) (.cond 205 (.q [.m 2 (.c (.b false))] [1,4,205] .ret) .skip))) (.reg [.m 166 4,.o 167 (.n .add 166 (.k 1)),.m 4 167] [166,167,205]))
def c109_1:C:=
 .seq (.q [.m 32 3,.o 33 (.fa 3 1),.o 34 (.ld 1 false 33),.o 35 (.len false 34),.o 36 (.n .lss 32 35)] [32,33,34,35] (.cond 36 .skip (.exit 0))) (.seq (.blk 1 (.q [.o 39 (.fa 3 1),.o 40 (.ld 1 false 39),.m 41 3,.o 42 (.ia 1 40 41),.o 43 (.ld 1 false 42),.o 44 (.len false 43),.o 45 (.n .eql 44 (.k 0)),.m 46 45,.h 47 46 (.fa 3 1),.h 48 46 (.ld 1 false 47),.h 49 46 (.mv 3),.h 50 46 (.ia 1 48 49),.h 51 46 (.ld 1 false 50),.h 52 46 (.call 67 true [51]),.h 53 46 (.un .not 52),.o 54 (.pick 46 (.c (.b true)) 53)] [36,39,40,41,42,43,44,45,46,47,48,49,50,51,52,53] (.cond 54 (.q [.m 2 (.c (.b false))] [1,3,54] .ret) .skip))) (.reg [.m 37 3,.o 38 (.n .add 37 (.k 1)),.m 3 38] [37,38,54]))
def c109_r0:C:=
 .q [.m 2 (.c (.b true))] [1,4,165] .ret
def c109_r1:C:=
 .q [.m 2 (.c (.b false))] [1,131] .ret
def c109_r2:C:=
 .seq (.q [.o 55 (.fa 0 1),.o 56 (.ld 1 false 55)] [3,36,55] (.blk 2 (.q [.o 58 (.n .eql 56 (.k 1)),.m 57 58] [58] (.cond 57 (.seq (.dreg [(0,.o 59 (.fa 3 1)),(1,.o 60 (.ld 1 false 59)),(2,.o 61 (.len false 60)),(3,.o 62 (.n .eql 61 (.k 2))),(4,.m 63 62),(5,.g 64 63 (.ld 10 true 1)),(6,.g 65 63 (.call 164 true [64])),(7,.o 66 (.pick 63 65 (.c (.b false)))),(8,.m 67 66),(9,.g 68 67 (.fa 3 1)),(10,.g 69 67 (.ld 1 false 68)),(11,.g 70 67 (.ia 1 69 (.k 0))),(12,.g 71 67 (.ld 1 false 70)),(13,.g 72 67 (.fa 3 1)),(14,.g 73 67 (.ld 1 false 72)),(15,.g 74 67 (.ia 1 73 (.k 1))),(16,.g 75 67 (.ld 1 false 74)),(17,.g 76 67 (.call 165 true [71,75])),(18,.g 77 67 (.un .not 76)),(19,.o 78 (.pick 67 77 (.c (.b false)))),(20,.m 2 78)] [1,56,57,59,60,61,62,63,64,65,66,67,68,69,70,71,72,73,74,75,76,77,78]) .ret) (.q [.o 80 (.n .eql 56 (.k 2)),.m 79 80] [57,80] (.cond 79 (.q [.o 81 (.fa 3 1),.o 82 (.ld 1 false 81),.o 83 (.len false 82),.o 84 (.n .eql 83 (.k 1)),.m 85 84,.g 86 85 (.ld 10 true 1),.g 87 85 (.call 164 true [86]),.o 88 (.pick 85 87 (.c (.b false))),.m 89 88,.g 90 89 (.fa 3 1),.g 91 89 (.ld 1 false 90),.g 92 89 (.ia 1 91 (.k 0)),.g 93 89 (.ld 1 false 92),.g 94 89 (.len false 93),.g 95 89 (.n .eql 94 (.k 1)),.g 96 89 (.mv 95),.g 97 96 (.fa 3 1),.g 98 96 (.ld 1 false 97),.g 99 96 (.ia 1 98 (.k 0)),.g 100 96 (.ld 1 false 99),.g 101 96 (.call 166 true [100]),.g 102 89 (.pick 96 101 (.c (.b false))),.g 103 89 (.un .not 102),.o 104 (.pick 89 103 (.c (.b false))),.m 105 104,.g 106 105 (.fa 3 1),.g 107 105 (.ld 1 false 106),.g 108 105 (.ia 1 107 (.k 0)),.g 109 105 (.ld 1 false 108),.g 110 105 (.call 167 true [109]),.g 111 105 (.un .not 110),.o 112 (.pick 105 111 (.c (.b false))),.m 2 112] [1,56,79,81,82,83,84,85,86,87,88,89,90,91,92,93,94,95,96,97,98,99,100,101,102,103,104,105,106,107,108,109,110,111,112] .ret) (.q [.o 114 (.n .eql 56 (.k 3)),.m 113 114] [79,114] (.cond 113 (.q [.o 115 (.fa 3 1),.o 116 (.ld 1 false 115),.o 117 (.len false 116),.o 118 (.n .eql 117 (.k 1)),.m 119 118,.g 120 119 (.ld 10 true 1),.g 121 119 (.call 164 true [120]),.o 122 (.pick 119 121 (.c (.b false))),.m 123 122,.g 124 123 (.fa 3 1),.g 125 123 (.ld 1 false 124),.g 126 123 (.ia 1 125 (.k 0)),.g 127 123 (.ld 1 false 126),.g 128 123 (.call 166 true [127]),.g 129 123 (.un .not 128),.o 130 (.pick 123 129 (.c (.b false))),.m 2 130] [1,56,113,115,116,117,118,119,120,121,122,123,124,125,126,127,128,129,130] .ret) (.q [.o 132 (.n .eql 56 (.k 4)),.m 131 132] [56,113,132] (.cond 131 (.seq (.q [.o 133 (.fa 3 1),.o 134 (.ld 1 false 133),.o 135 (.len false 134),.o 136 (.n .neq 135 (.k 0)),.m 137 136,.h 138 137 (.fa 5 1),.h 139 137 (.ld 1 false 138),.h 140 137 (.len false 139),.h 141 137 (.n .eql 140 (.k 0)),.o 142 (.pick 137 (.c (.b true)) 141),.m 143 142,.h 144 143 (.fa 5 1),.h 145 143 (.ld 1 false 144),.h 146 143 (.len false 145),.h 147 143 (.n .gtr 146 (.k 1024)),.o 148 (.pick 143 (.c (.b true)) 147),.m 149 148,.h 150 149 (.fa 4 1),.h 151 149 (.ld 1 false 150),.h 152 149 (.fa 5 1),.h 153 149 (.ld 1 false 152),.h 154 149 (.fa 6 1),.h 155 149 (.ld 1 false 154),.h 156 149 (.fa 7 1),.h 157 149 (.ld 3 true 156),.h 158 149 (.call 168 true [151,153,155,157]),.h 159 149 (.un .not 158),.o 160 (.pick 149 (.c (.b true)) 159)] [131,133,134,135,136,137,138,139,140,141,142,143,144,145,146,147,148,149,150,151,152,153,154,155,156,157,158,159] (.cond 160 (.q [.m 2 (.c (.b false))] [1,160] .ret) .skip)) (.seq (.q [.m 4 (.k 0)] [160] (.blk 3 (.loop [] c109_0))) c109_r0)) .skip)))))))))) c109_r1
def c109:C:=
 (.q [.o 1 (.box 10 true 0),.m 2 (.c (.b false))] [0,2] (.seq (.q [.o 5 (.fa 0 1),.o 6 (.ld 1 false 5),.o 7 (.n .eql 6 (.k 0))] [5,6] (.cond 7 (.q [.o 8 (.fa 1 1),.o 9 (.fa 0 8),.o 10 (.ld 1 false 9),.o 11 (.n .geq 10 (.k 1)),.m 12 11,.g 13 12 (.fa 1 1),.g 14 12 (.fa 1 13),.g 15 12 (.ld 1 false 14),.g 16 12 (.n .geq 15 (.k 1)),.o 17 (.pick 12 16 (.c (.b false))),.m 18 17,.g 19 18 (.fa 3 1),.g 20 18 (.ld 1 false 19),.g 21 18 (.len false 20),.g 22 18 (.n .eql 21 (.k 0)),.o 23 (.pick 18 22 (.c (.b false))),.m 24 23,.g 25 24 (.ld 10 true 1),.g 26 24 (.call 164 true [25]),.o 27 (.pick 24 26 (.c (.b false))),.m 2 27] [1,7,8,9,10,11,12,13,14,15,16,17,18,19,20,21,22,23,24,25,26,27] .ret) .skip)) (.seq (.q [.o 28 (.fa 1 1),.o 29 (.ld 2 true 28),.o 30 (.bld [.i .i64 0,.i .i64 0] []),.o 31 (.bin .neq (.agg [.i,.i]) 29 30)] [7,28,29,30] (.cond 31 (.q [.m 2 (.c (.b false))] [1,31] .ret) .skip)) (.seq (.q [.m 3 (.k 0)] [31] (.blk 0 (.loop [] c109_1))) c109_r2))))
def d109:Fn:={ real:=109,np:=1,nt:=206,res:=[.t 2],body:=c109 }
def c110_0:C:=
 .seq (.q [.m 29 7,.o 30 (.fa 3 2),.o 31 (.ld 1 false 30),.o 32 (.len false 31),.o 33 (.n .lss 29 32),.m 34 33,.g 35 34 (.mv 7),.g 36 34 (.fa 3 3),.g 37 34 (.ld 1 false 36),.g 38 34 (.len false 37),.g 39 34 (.n .lss 35 38),.o 40 (.pick 34 39 (.c (.b false)))] [29,30,31,32,33,34,35,36,37,38,39] (.cond 40 .skip (.exit 0))) (.seq (.blk 1 (.seq (.dreg [(0,.o 43 (.fa 3 2)),(1,.o 44 (.ld 1 false 43)),(2,.m 45 7),(3,.o 46 (.ia 1 44 45)),(4,.o 47 (.ld 1 false 46)),(5,.o 48 (.fa 3 3)),(6,.o 49 (.ld 1 false 48)),(7,.m 50 7),(8,.o 51 (.ia 1 49 50)),(9,.o 52 (.ld 1 false 51)),(10,.o 53 (.call 171 true [47,52])),(11,.m 8 53)] [40,43,44,45,46,47,48,49,50,51,52,53]) (.q [.m 54 8,.o 55 (.n .neq 54 (.k 0))] [54] (.cond 55 (.q [.m 56 8,.m 4 56] [2,3,7,8,55,56] .ret) .skip)))) (.reg [.m 41 7,.o 42 (.n .add 41 (.k 1)),.m 7 42] [8,41,42,55]))
def c110_r0:C:=
 .seq (.q [.o 57 (.fa 3 2),.o 58 (.ld 1 false 57),.o 59 (.len false 58),.o 60 (.fa 3 3),.o 61 (.ld 1 false 60),.o 62 (.len false 61),.o 63 (.call 163 true [59,62]),.m 9 63] [7,40,57,58,59,60,61,62,63] (.q [.m 64 9,.o 65 (.n .neq 64 (.k 0))] [64] (.cond 65 (.q [.m 66 9,.m 4 66] [2,3,9,65,66] .ret) .skip))) (.seq (.q [.o 67 (.fa 4 2),.o 68 (.ld 1 false 67),.o 69 (.fa 4 3),.o 70 (.ld 1 false 69),.o 71 (.call 163 true [68,70]),.m 10 71] [9,65,67,68,69,70,71] (.q [.m 72 10,.o 73 (.n .neq 72 (.k 0))] [72] (.cond 73 (.q [.m 74 10,.m 4 74] [2,3,10,73,74] .ret) .skip))) (.seq (.q [.o 75 (.fa 5 2),.o 76 (.ld 1 false 75),.o 77 (.fa 5 3),.o 78 (.ld 1 false 77),.o 79 (.call 169 true [76,78]),.m 11 79] [10,73,75,76,77,78,79] (.q [.m 80 11,.o 81 (.n .neq 80 (.k 0))] [80] (.cond 81 (.q [.m 82 11,.m 4 82] [2,3,11,81,82] .ret) .skip))) (.seq (.q [.o 83 (.fa 6 2),.o 84 (.ld 1 false 83),.o 85 (.fa 6 3),.o 86 (.ld 1 false 85),.o 87 (.call 163 true [84,86]),.m 12 87] [11,81,83,84,85,86,87] (.q [.m 88 12,.o 89 (.n .neq 88 (.k 0))] [88] (.cond 89 (.q [.m 90 12,.m 4 90] [2,3,12,89,90] .ret) .skip))) (.q [.o 91 (.fa 7 2),.o 92 (.ld 3 true 91),.o 93 (.fa 7 3),.o 94 (.ld 3 true 93),.o 95 (.call 172 true [92,94]),.m 4 95] [2,3,12,89,91,92,93,94,95] .ret))))
def c110:C:=
 (.q [.o 2 (.box 10 true 0),.o 3 (.box 10 true 1),.m 4 (.k 0)] [0,1,4] (.seq (.q [.o 13 (.fa 0 2),.o 14 (.ld 1 false 13),.o 15 (.fa 0 3),.o 16 (.ld 1 false 15),.o 17 (.call 163 true [14,16]),.m 5 17] [13,14,15,16,17] (.q [.m 18 5,.o 19 (.n .neq 18 (.k 0))] [18] (.cond 19 (.q [.m 20 5,.m 4 20] [2,3,5,19,20] .ret) .skip))) (.seq (.q [.o 21 (.fa 1 2),.o 22 (.ld 2 true 21),.o 23 (.fa 1 3),.o 24 (.ld 2 true 23),.o 25 (.call 170 true [22,24]),.m 6 25] [5,19,21,22,23,24,25] (.q [.m 26 6,.o 27 (.n .neq 26 (.k 0))] [26] (.cond 27 (.q [.m 28 6,.m 4 28] [2,3,6,27,28] .ret) .skip))) (.seq (.q [.m 7 (.k 0)] [6,27] (.blk 0 (.loop [] c110_0))) c110_r0))))
def d110:Fn:={ real:=110,np:=2,nt:=96,res:=[.t 4],body:=c110 }
def c111_0:C:=
 .seq (.seq (.dreg [(0,.m 6 5),(1,.m 7 0),(2,.o 8 (.len false 7)),(3,.o 9 (.n .lss 6 8)),(4,.m 10 9),(5,.g 11 10 (.mv 0)),(6,.g 12 10 (.mv 5)),(7,.g 13 10 (.ia 2 11 12)),(8,.g 14 10 (.ld 2 true 13)),(9,.g 15 10 (.ld 2 true 3)),(10,.g 16 10 (.call 170 true [14,15])),(11,.g 17 10 (.n .lss 16 (.k 0))),(12,.o 18 (.pick 10 17 (.c (.b false))))] [6,7,8,9,10,11,12,13,14,15,16,17]) (.cond 18 .skip (.exit 0))) (.blk 1 (.reg [.m 19 5,.o 20 (.n .add 19 (.k 1)),.m 5 20] [18,19,20]))
def c111_r0:C:=
 .seq (.seq (.dreg [(0,.m 21 5),(1,.m 22 0),(2,.o 23 (.len false 22)),(3,.o 24 (.n .lss 21 23)),(4,.m 25 24),(5,.g 26 25 (.mv 0)),(6,.g 27 25 (.mv 5)),(7,.g 28 25 (.ia 2 26 27)),(8,.g 29 25 (.ld 2 true 28)),(9,.g 30 25 (.ld 2 true 3)),(10,.g 31 25 (.bin .eql (.agg [.i,.i]) 29 30)),(11,.o 32 (.pick 25 31 (.c (.b false))))] [18,21,22,23,24,25,26,27,28,29,30,31]) (.cond 32 (.q [.m 33 0,.m 4 33] [0,3,5,32,33] .ret) .skip)) (.seq (.dreg [(0,.o 34 (.bsl 2 true true [])),(1,.m 35 0),(2,.m 36 5),(3,.o 37 (.slc 2 35 none (some 36))),(5,.o 39 (.ld 2 true 3)),(6,.o 40 (.bsl 2 true false [39])),(8,.m 42 0),(9,.m 43 5),(10,.o 44 (.slc 2 42 (some 43) none)),(4,.o 38 (.app 2 false 34 37)),(5,.ck 39 (.ld 2 true 3)),(7,.o 41 (.app 2 false 38 40)),(11,.o 45 (.app 2 false 41 44)),(12,.m 4 45)] [0,3,5,32,34,35,36,37,38,39,40,41,42,43,44,45]) .ret)
def c111:C:=
 (.q [.o 3 (.box 2 true 1),.m 4 (.c (.sl 2 true [] .ro))] [1,4] (.q [.m 5 (.k 0)] [] (.seq (.blk 0 (.loop [] c111_0)) c111_r0)))
def d111:Fn:={ real:=111,np:=2,nt:=46,res:=[.t 4],body:=c111 }
def c112_0:C:=
 .seq (.q [.m 6 5,.m 7 1,.o 8 (.len false 7),.o 9 (.n .lss 6 8)] [6,7,8] (.cond 9 .skip (.exit 0))) (.seq (.blk 1 (.reg [.m 12 0,.m 13 1,.m 14 5,.o 15 (.ia 2 13 14),.o 16 (.ld 2 true 15),.o 17 (.call 111 true [12,16]),.m 0 17] [9,12,13,14,15,16,17])) (.reg [.m 10 5,.o 11 (.n .add 10 (.k 1)),.m 5 11] [10,11]))
def c112_r0:C:=
 .q [.m 18 0,.m 4 18] [0,1,5,9,18] .ret
def c112:C:=
 (.q [.m 4 (.c (.sl 2 true [] .ro))] [4] (.seq (.q [.m 5 (.k 0)] [] (.blk 0 (.loop [] c112_0))) c112_r0))
def d112:Fn:={ real:=112,np:=2,nt:=19,res:=[.t 4],body:=c112 }
def c113:C:=
 (.q [.o 4 (.box 10 true 1),.m 6 (.c (.sl 1 true [] .ro)),.m 7 (.c (.b false))] [1,6,7] (.seq (.q [.o 13 (.fa 0 4),.o 14 (.ld 1 false 13),.o 15 (.n .eql 14 (.k 0))] [13,14] (.cond 15 (.q [.m 16 0,.o 17 (.len false 16),.m 18 0,.o 19 (.fa 1 4),.o 20 (.ld 2 true 19),.o 21 (.call 15 true [18,20]),.o 22 (.call 20 true [17,21]),.m 6 22,.m 7 (.c (.b true))] [0,2,4,15,16,17,18,19,20,21,22] .ret) .skip)) (.q [.m 24 0,.o 25 (.fa 3 4),.o 26 (.ld 1 false 25),.o 27 (.ia 1 26 (.k 0)),.o 28 (.ld 1 false 27),.m 29 2,.o 30 (.call 70 true [24,28,29]),.m 23 30,.o 31 (.ext 23 0),.o 32 (.ext 23 1),.m 8 31,.m 9 32] [15,23,24,25,26,27,28,29,30,31,32] (.seq (.q [.m 33 9,.o 34 (.un .not 33)] [9,33] (.cond 34 (.q [.m 6 (.c (.sl 1 true [] .ro)),.m 7 (.c (.b false))] [0,2,4,8,34] .ret) .skip)) (.seq (.q [.o 35 (.fa 0 4),.o 36 (.ld 1 false 35)] [34,35] (.blk 0 (.q [.o 38 (.n .eql 36 (.k 2)),.m 37 38] [38] (.cond 37 (.q [.m 39 8,.m 6 39,.m 7 (.c (.b true))] [0,2,4,8,36,37,39] .ret) (.q [.o 41 (.n .eql 36 (.k 3)),.m 40 41] [36,37,41] (.cond 40 (.q [.m 42 8,.o 43 (.call 26 true [42]),.m 6 43,.m 7 (.c (.b true))] [0,2,4,8,40,42,43] .ret) .skip)))))) (.q [.m 45 0,.o 46 (.fa 3 4),.o 47 (.ld 1 false 46),.o 48 (.ia 1 47 (.k 1)),.o 49 (.ld 1 false 48),.m 50 2,.o 51 (.call 70 true [45,49,50]),.m 44 51,.o 52 (.ext 44 0),.o 53 (.ext 44 1),.m 10 52,.m 11 53] [4,40,44,45,46,47,48,49,50,51,52,53] (.seq (.q [.m 54 11,.o 55 (.un .not 54)] [11,54] (.cond 55 (.q [.m 6 (.c (.sl 1 true [] .ro)),.m 7 (.c (.b false))] [0,2,8,10,55] .ret) .skip)) (.q [.m 56 8,.m 57 10,.o 58 (.call 26 true [57]),.o 59 (.call 28 true [56,58]),.m 12 59] [8,10,55,56,57,58,59] (.q [.m 60 12,.m 61 0,.m 62 12,.m 63 2,.o 64 (.call 114 true [61,62,63]),.m 6 60,.m 7 64] [0,2,12,60,61,62,63,64] .ret)))))))))
def d113:Fn:={ real:=113,np:=3,nt:=65,res:=[.t 6,.t 7],body:=c113 }
def c114:C:=
 (.q [.m 6 (.c (.b false))] [6] (.q [.m 7 0,.m 8 1,.o 9 (.call 18 true [7,8]),.o 10 (.fld 1 1 false 9),.o 11 (.len false 10),.m 12 2,.o 13 (.n .leq 11 12),.m 6 13] [0,1,2,7,8,9,10,11,12,13] .ret))
def d114:Fn:={ real:=114,np:=3,nt:=14,res:=[.t 6],body:=c114 }
def c115:C:=
 (.q [.m 6 (.k 0)] [6] (.seq (.q [.o 11 (.ld 1 false 1),.m 12 0,.o 13 (.lk (.one .i) true (.i .i64 0) 11 12),.m 10 13,.o 14 (.ext 10 0),.o 15 (.ext 10 1),.m 7 14,.m 8 15] [10,11,12,13,14,15] (.q [.m 16 8] [8] (.cond 16 (.q [.m 17 7,.m 6 17] [0,1,2,3,4,7,16,17] .ret) .skip))) (.q [.o 18 (.ld 1 false 2),.m 19 0,.o 20 (.n .sub 19 (.k 2)),.o 21 (.ia 3 18 20),.o 22 (.ld 3 true 21),.o 9 (.alloc [.i .i64 0,.i .i64 0,.i .i64 0]),.e (.st 3 true 9 22)] [2,7,16,18,19,20,21,22] (.seq (.dreg [(0,.o 23 (.ld 1 false 3)),(1,.o 24 (.fa 1 9)),(2,.o 25 (.ld 1 false 24)),(4,.o 27 (.ld 1 false 3)),(5,.o 28 (.fa 2 9)),(6,.o 29 (.ld 1 false 28)),(3,.o 26 (.calld 23 false [25])),(4,.ck 27 (.ld 1 false 3)),(6,.ck 29 (.ld 1 false 28)),(8,.o 31 (.fa 1 9)),(7,.o 30 (.calld 27 false [29])),(9,.e (.st 1 false 31 26)),(10,.o 32 (.fa 2 9)),(11,.e (.st 1 false 32 30))] [3,23,24,25,26,27,28,29,30,31,32]) (.q [.o 33 (.fa 1 4),.o 34 (.ld 1 false 33),.o 35 (.ld 3 true 9),.o 36 (.bsl 3 true false [35]),.o 37 (.app 3 false 34 36),.o 38 (.fa 1 4),.e (.st 1 false 38 37)] [9,33,34,35,36,37,38] (.q [.o 39 (.ld 1 false 1),.m 40 0,.o 41 (.fa 1 4),.o 42 (.ld 1 false 41),.o 43 (.len false 42),.o 44 (.n .sub 43 (.k 1)),.o 45 (.n .add 44 (.k 2)),.e (.mu (.one .i) 39 40 45)] [4,39,40,41,42,43,44,45] (.q [.o 46 (.ld 1 false 1),.m 47 0,.o 48 (.lk (.one .i) false (.i .i64 0) 46 47),.m 6 48] [0,1,46,47,48] .ret)))))))
def d115:Fn:={ real:=115,np:=5,nt:=49,res:=[.t 6],body:=c115 }
def c116_0:C:=
 .seq (.q [.m 6 3,.o 7 (.n .gtr 6 (.k 0)),.m 8 7,.g 9 8 (.mv 0),.g 10 8 (.mv 3),.g 11 8 (.n .sub 10 (.k 1)),.g 12 8 (.ia 1 9 11),.g 13 8 (.ld 1 false 12),.g 14 8 (.n .eql 13 (.c (.i .u32 0))),.o 15 (.pick 8 14 (.c (.b false)))] [6,7,8,9,10,11,12,13,14] (.cond 15 .skip (.exit 0))) (.blk 1 (.reg [.m 16 3,.o 17 (.n .sub 16 (.k 1)),.m 3 17] [15,16,17]))
def c116_r0:C:=
 .q [.m 18 0,.m 19 3,.o 20 (.slc 1 18 none (some 19)),.m 2 20] [0,3,15,18,19,20] .ret
def c116:C:=
 (.q [.m 2 (.c (.sl 1 true [] .ro))] [2] (.q [.m 4 0,.o 5 (.len false 4),.m 3 5] [4,5] (.seq (.blk 0 (.loop [] c116_0)) c116_r0)))
def d116:Fn:={ real:=116,np:=1,nt:=21,res:=[.t 2],body:=c116 }
def c117:C:=
 (.q [.m 2 (.c (.sl 1 true [] .ro)),.m 3 (.k 0)] [2,3] (.q [.m 5 0,.o 6 (.call 116 true [5]),.m 4 6] [0,5,6] (.seq (.q [.m 7 4,.o 8 (.len false 7),.o 9 (.n .gtr 8 (.k 128))] [7,8] (.cond 9 (.q [.m 2 (.c (.sl 1 true [] .ro)),.m 3 (.k 6)] [4,9] .ret) .skip)) (.q [.m 10 4,.m 2 10,.m 3 (.k 0)] [4,9,10] .ret))))
def d117:Fn:={ real:=117,np:=1,nt:=11,res:=[.t 2,.t 3],body:=c117 }
def c118_0:C:=
 .q [.o 15 (.n .lss 14 13)] [] (.seq (.cond 15 .skip (.exit 0)) (.seq (.blk 1 (.q [.m 16 14,.m 6 16] [15,16] (.q [.m 17 0,.m 18 6,.o 19 (.ia 1 17 18),.o 20 (.ld 1 false 19),.o 21 (.conv .u64 20),.m 22 1,.o 23 (.n .shl 21 22),.m 7 23] [17,18,19,20,21,22,23] (.q [.m 24 5,.m 25 6,.o 26 (.ia 1 24 25),.o 27 (.ld 1 false 26),.m 28 7,.o 29 (.conv .u32 28),.o 30 (.n .or 27 29),.o 31 (.ia 1 24 25),.e (.st 1 false 31 30)] [24,25,26,27,28,29,30,31] (.reg [.m 32 5,.m 33 6,.o 34 (.n .add 33 (.k 1)),.m 35 7,.o 36 (.n .shr 35 (.c (.i .u64 32))),.o 37 (.conv .u32 36),.o 38 (.ia 1 32 34),.e (.st 1 false 38 37)] [6,7,32,33,34,35,36,37,38]))))) (.reg [.o 39 (.n .add 14 (.k 1)),.m 14 39] [39])))
def c118_r0:C:=
 .q [.fz 5,.m 40 5,.m 4 40] [0,1,5,13,14,15,40] .ret
def c118:C:=
 (.q [.m 4 (.c (.sl 1 true [] .ro))] [4] (.q [.m 8 0,.o 9 (.len false 8),.o 10 (.n .add 9 (.k 1)),.o 11 (.mksl 1 true [.i .u32 0] 10),.m 5 11] [8,9,10,11] (.seq (.q [.m 12 0,.o 13 (.len false 12),.m 14 (.k 0)] [12] (.blk 0 (.loop [] c118_0))) c118_r0)))
def d118:Fn:={ real:=118,np:=2,nt:=41,res:=[.t 4],body:=c118 }
def c119_0:C:=
 .q [.o 14 (.n .lss 13 12)] [] (.seq (.cond 14 .skip (.exit 0)) (.seq (.blk 1 (.q [.m 15 13,.m 6 15] [14,15] (.q [.m 16 0,.m 17 6,.o 18 (.ia 1 16 17),.o 19 (.ld 1 false 18),.o 20 (.conv .u64 19),.m 7 20] [16,17,18,19,20] (.seq (.q [.m 21 6,.o 22 (.n .add 21 (.k 1)),.m 23 0,.o 24 (.len false 23),.o 25 (.n .lss 22 24)] [21,22,23,24] (.cond 25 (.reg [.m 26 7,.m 27 0,.m 28 6,.o 29 (.n .add 28 (.k 1)),.o 30 (.ia 1 27 29),.o 31 (.ld 1 false 30),.o 32 (.conv .u64 31),.o 33 (.n .shl 32 (.c (.i .u64 32))),.o 34 (.n .or 26 33),.m 7 34] [25,26,27,28,29,30,31,32,33,34]) .skip)) (.reg [.m 35 5,.m 36 6,.m 37 7,.m 38 1,.o 39 (.n .shr 37 38),.o 40 (.conv .u32 39),.o 41 (.ia 1 35 36),.e (.st 1 false 41 40)] [6,7,25,35,36,37,38,39,40,41]))))) (.reg [.o 42 (.n .add 13 (.k 1)),.m 13 42] [42])))
def c119_r0:C:=
 .q [.fz 5,.m 43 5,.m 4 43] [0,1,5,12,13,14,43] .ret
def c119:C:=
 (.q [.m 4 (.c (.sl 1 true [] .ro))] [4] (.q [.m 8 0,.o 9 (.len false 8),.o 10 (.mksl 1 true [.i .u32 0] 9),.m 5 10] [8,9,10] (.seq (.q [.m 11 0,.o 12 (.len false 11),.m 13 (.k 0)] [11] (.blk 0 (.loop [] c119_0))) c119_r0)))
def d119:Fn:={ real:=119,np:=2,nt:=44,res:=[.t 4],body:=c119 }
def c120:C:=
 (.q [.o 1 (.box 1 false 0),.m 2 (.c (.top))] [0,2] (.q [.o 3 (.mkfn 173 [1]),.m 2 3] [1,3] .ret))
def d120:Fn:={ real:=120,np:=1,nt:=4,res:=[.t 2],body:=c120 }
def c121:C:=
 (.q [.m 6 (.c (.i .u32 0)),.m 7 (.c (.i .u32 0))] [6,7] (.q [.m 9 0,.o 10 (.conv .u64 9),.m 11 1,.o 12 (.conv .u64 11),.o 13 (.n .add 10 12),.m 14 2,.o 15 (.conv .u64 14),.o 16 (.n .add 13 15),.m 8 16] [0,1,2,9,10,11,12,13,14,15,16] (.q [.m 17 8,.o 18 (.conv .u32 17),.m 6 18] [17,18] (.q [.m 19 8,.o 20 (.n .shr 19 (.c (.i .u64 32))),.o 21 (.conv .u32 20),.m 7 21] [8,19,20,21] .ret))))
def d121:Fn:={ real:=121,np:=3,nt:=22,res:=[.t 6,.t 7],body:=c121 }
def c122:C:=
 (.q [.m 5 0,.o 6 (.len false 5),.m 4 6] [5,6] (.reg [.m 7 0,.m 8 4,.m 9 4,.o 10 (.conv .u64 9),.o 11 (.call 175 true [10]),.m 12 1,.o 13 (.call 174 false [7,.k 0,8,11,12])] [0,1,4,7,8,9,10,11,12,13]))
def d122:Fn:={ real:=122,np:=2,nt:=14,res:=[],body:=c122 }
def c123:C:=
 (.q [.o 2 (.box 2 true 0),.o 3 (.box 2 true 1),.m 4 (.k 0)] [0,1,4] (.seq (.dreg [(0,.o 5 (.fa 0 2)),(1,.o 6 (.ld 1 false 5)),(2,.o 7 (.fa 0 3)),(3,.o 8 (.ld 1 false 7)),(4,.o 9 (.call 144 true [6,8])),(5,.o 10 (.fa 1 2)),(6,.o 11 (.ld 1 false 10)),(7,.o 12 (.fa 1 3)),(8,.o 13 (.ld 1 false 12)),(9,.o 14 (.call 144 true [11,13])),(10,.o 15 (.bsl 1 false false [9,14])),(11,.o 16 (.call 143 true [15])),(12,.m 4 16)] [2,3,5,6,7,8,9,10,11,12,13,14,15,16]) .ret))
def d123:Fn:={ real:=123,np:=2,nt:=17,res:=[.t 4],body:=c123 }
def c124_0:C:=
 .seq (.q [.m 29 5,.m 30 4,.o 31 (.len false 30),.o 32 (.n .lss 29 31)] [29,30,31] (.cond 32 .skip (.exit 2))) (.seq (.blk 3 (.seq (.dreg [(0,.m 35 4),(1,.m 36 5),(2,.o 37 (.ia 2 35 36)),(3,.o 38 (.ld 2 true 37)),(4,.m 39 4),(5,.m 40 5),(6,.o 41 (.n .sub 40 (.k 1))),(7,.o 42 (.ia 2 39 41)),(8,.o 43 (.ld 2 true 42)),(9,.o 44 (.bin .neq (.agg [.i,.i]) 38 43))] [32,35,36,37,38,39,40,41,42,43]) (.cond 44 (.q [.m 45 0,.m 46 3,.m 47 4,.m 48 5,.o 49 (.ia 2 47 48),.o 50 (.ld 2 true 49),.o 51 (.ia 2 45 46),.e (.st 2 true 51 50)] [44,45,46,47,48,49,50,51] (.reg [.m 52 3,.o 53 (.n .add 52 (.k 1)),.m 3 53] [52,53])) .skip))) (.reg [.m 33 5,.o 34 (.n .add 33 (.k 1)),.m 5 34] [33,34,44]))
def c124_r0:C:=
 .q [.m 54 0,.m 55 3,.o 56 (.slc 2 54 (some 55) none),.e (.clr 2 [.i .i64 0,.i .i64 0] 56)] [4,5,32,54,55,56] (.q [.m 57 0,.m 58 3,.o 59 (.slc 2 57 none (some 58)),.m 2 59] [0,3,57,58,59] .ret)
def c124_r1:C:=
 .reg [.m 14 3,.o 15 (.n .add 14 (.k 1)),.m 3 15] [14,15,25]
def c124_1:C:=
 .seq (.q [.m 10 3,.m 11 0,.o 12 (.len false 11),.o 13 (.n .lss 10 12)] [10,11,12] (.cond 13 .skip (.exit 0))) (.seq (.blk 1 (.seq (.dreg [(0,.m 16 0),(1,.m 17 3),(2,.o 18 (.ia 2 16 17)),(3,.o 19 (.ld 2 true 18)),(4,.m 20 0),(5,.m 21 3),(6,.o 22 (.n .sub 21 (.k 1))),(7,.o 23 (.ia 2 20 22)),(8,.o 24 (.ld 2 true 23)),(9,.o 25 (.bin .eql (.agg [.i,.i]) 19 24))] [13,16,17,18,19,20,21,22,23,24]) (.cond 25 (.q [.m 26 0,.m 27 3,.o 28 (.slc 2 26 (some 27) none),.m 4 28] [25,26,27,28] (.seq (.q [.m 5 (.k 1)] [] (.blk 2 (.loop [] c124_0))) c124_r0)) .skip))) c124_r1)
def c124_r2:C:=
 .q [.m 60 0,.m 2 60] [0,3,13,60] .ret
def c124:C:=
 (.q [.m 2 (.c (.sl 2 true [] .ro))] [2] (.seq (.q [.m 6 0,.o 7 (.len false 6),.o 8 (.n .lss 7 (.k 2))] [6,7] (.cond 8 (.q [.m 9 0,.m 2 9] [0,8,9] .ret) .skip)) (.seq (.q [.m 3 (.k 1)] [8] (.blk 0 (.loop [] c124_1))) c124_r2)))
def d124:Fn:={ real:=124,np:=1,nt:=61,res:=[.t 2],body:=c124 }
def c127:C:=
 (.q [.m 4 (.k 0)] [4] (.q [.m 5 0,.m 6 1,.o 7 (.n .add 5 6),.o 8 (.mn 7 (.k 1152921504606846976)),.m 4 8] [0,1,5,6,7,8] .ret))
def d127:Fn:={ real:=127,np:=2,nt:=9,res:=[.t 4],body:=c127 }
def c128:C:=
 (.q [.m 4 (.c (.s []))] [4] (.seq (.q [.m 9 1,.o 10 (.n .eql 9 (.k 10))] [9] (.cond 10 (.seq (.q [.m 11 0,.o 12 (.n .lss 11 (.c (.i .u64 100)))] [1,10,11] (.cond 12 (.q [.m 13 0,.o 14 (.conv .i64 13),.o 15 (.call 176 true [14]),.m 4 15] [0,12,13,14,15] .ret) .skip)) (.q [.o 5 (.alloc [.i .u8 0,.i .u8 0,.i .u8 0,.i .u8 0,.i .u8 0,.i .u8 0,.i .u8 0,.i .u8 0,.i .u8 0,.i .u8 0,.i .u8 0,.i .u8 0,.i .u8 0,.i .u8 0,.i .u8 0,.i .u8 0,.i .u8 0,.i .u8 0,.i .u8 0,.i .u8 0,.i .u8 0,.i .u8 0,.i .u8 0,.i .u8 0])] [12] (.q [.m 16 0,.o 17 (.call 177 true [16]),.m 6 17] [16,17] (.bad)))) .skip)) (.q [.m 26 0,.m 27 1,.o 28 (.call 179 true [.c (.sl 1 true [] .ro),26,27,.c (.b false),.c (.b false)]),.m 25 28,.o 29 (.ext 25 0),.o 30 (.ext 25 1),.m 7 29,.m 8 30] [0,1,7,10,25,26,27,28,29,30] (.q [.m 31 8,.m 4 31] [8,31] .ret))))
def d128:Fn:={ real:=128,np:=2,nt:=32,res:=[.t 4],body:=c128 }
def c135_0:C:=
 .q [.o 48 (.n .lss 47 46)] [] (.seq (.cond 48 .skip (.exit 6)) (.seq (.blk 7 (.q [.o 49 (.ia 4 45 47),.o 50 (.ld 4 true 49),.o 12 (.alloc [.i .i64 0,.i .i64 0,.s [],.sl 2 true [] .ro]),.e (.st 4 true 12 50)] [48,49,50] (.reg [.m 51 8,.o 52 (.fa 3 12),.o 53 (.ld 1 false 52),.o 54 (.call 135 true [53]),.o 55 (.mx 51 54),.m 8 55] [12,51,52,53,54,55]))) (.reg [.o 56 (.n .add 47 (.k 1)),.m 47 56] [56])))
def c135_1:C:=
 .q [.o 35 (.n .lss 34 33)] [] (.seq (.cond 35 .skip (.exit 4)) (.seq (.blk 5 (.q [.o 36 (.ia 1 32 34),.o 37 (.ld 1 false 36),.m 10 37] [35,36,37] (.reg [.m 38 8,.m 39 10,.o 40 (.call 135 true [39]),.o 41 (.mx 38 40),.m 8 41] [10,38,39,40,41]))) (.reg [.o 42 (.n .add 34 (.k 1)),.m 34 42] [42])))
def c135_r0:C:=
 .reg [.m 57 3,.m 58 8,.o 59 (.n .add (.k 1) 58),.o 60 (.mx 57 59),.m 3 60] [8,45,46,47,48,57,58,59,60]
def c135_r1:C:=
 .seq (.q [.o 43 (.fa 0 7),.o 44 (.fa 5 43),.o 45 (.ld 1 false 44),.o 46 (.len false 45),.m 47 (.k 0)] [7,32,33,34,35,43,44] (.blk 6 (.loop [] c135_0))) c135_r0
def c135_r2:C:=
 .reg [.o 61 (.n .add 22 (.k 1)),.m 22 61] [7,29,61]
def c135_2:C:=
 .q [.o 23 (.n .lss 22 21)] [] (.seq (.cond 23 .skip (.exit 2)) (.seq (.blk 3 (.q [.o 24 (.ia 11 20 22),.o 25 (.ld 11 true 24),.o 7 (.alloc [.i .i64 0,.i .i64 0,.i .i64 0,.sl 1 true [] .ro,.i .i64 0,.sl 4 true [] .ro,.i .i64 0,.i .i64 0,.i .i64 0,.s [],.i .i64 0]),.e (.st 11 true 7 25)] [23,24,25] (.seq (.q [.o 26 (.fa 0 7),.o 27 (.fa 0 26),.o 28 (.ld 1 false 27),.o 29 (.n .eql 28 (.k 0))] [26,27,28] (.cond 29 (.exit 3) .skip)) (.q [.m 8 (.k 0)] [29] (.seq (.q [.o 30 (.fa 0 7),.o 31 (.fa 3 30),.o 32 (.ld 1 false 31),.o 33 (.len false 32),.m 34 (.k 0)] [30,31] (.blk 4 (.loop [] c135_1))) c135_r1))))) c135_r2))
def c135_r3:C:=
 .reg [.o 62 (.n .add 15 (.k 1)),.m 15 62] [20,21,22,23,62]
def c135_3:C:=
 .q [.o 16 (.n .lss 15 14)] [] (.seq (.cond 16 .skip (.exit 0)) (.seq (.blk 1 (.q [.o 17 (.ia 2 13 15),.o 18 (.ld 2 true 17),.o 5 (.alloc [.i .i64 0,.sl 11 true [] .ro]),.e (.st 2 true 5 18)] [16,17,18] (.q [.o 19 (.fa 1 5),.o 20 (.ld 1 false 19),.o 21 (.len false 20),.m 22 (.k 0)] [5,19] (.blk 2 (.loop [] c135_2))))) c135_r3))
def c135_r4:C:=
 .q [.m 63 3,.m 2 63] [3,13,14,15,16,63] .ret
def c135:C:=
 (.q [.m 2 (.k 0)] [2] (.q [.m 3 (.k 0)] [] (.seq (.q [.m 13 0,.o 14 (.len false 13),.m 15 (.k 0)] [0] (.blk 0 (.loop [] c135_3))) c135_r4)))
def d135:Fn:={ real:=135,np:=1,nt:=64,res:=[.t 2],body:=c135 }
def c136_0:C:=
 .q [.o 49 (.n .lss 48 47)] [] (.seq (.cond 49 .skip (.exit 6)) (.seq (.blk 7 (.q [.o 50 (.ia 4 46 48),.o 51 (.ld 4 true 50),.o 11 (.alloc [.i .i64 0,.i .i64 0,.s [],.sl 2 true [] .ro]),.e (.st 4 true 11 51)] [49,50,51] (.reg [.m 52 3,.o 53 (.fa 3 11),.o 54 (.ld 1 false 53),.o 55 (.call 136 true [54]),.o 56 (.n .add (.k 1) 55),.o 57 (.n .add 52 56),.m 3 57] [11,52,53,54,55,56,57]))) (.reg [.o 58 (.n .add 48 (.k 1)),.m 48 58] [58])))
def c136_1:C:=
 .q [.o 36 (.n .lss 35 34)] [] (.seq (.cond 36 .skip (.exit 4)) (.seq (.blk 5 (.q [.o 37 (.ia 1 33 35),.o 38 (.ld 1 false 37),.m 9 38] [36,37,38] (.reg [.m 39 3,.m 40 9,.o 41 (.call 136 true [40]),.o 42 (.n .add 39 41),.m 3 42] [9,39,40,41,42]))) (.reg [.o 43 (.n .add 35 (.k 1)),.m 35 43] [43])))
def c136_r0:C:=
 .q [.o 44 (.fa 0 7),.o 45 (.fa 5 44),.o 46 (.ld 1 false 45),.o 47 (.len false 46),.m 48 (.k 0)] [7,33,34,35,36,44,45] (.blk 6 (.loop [] c136_0))
def c136_r1:C:=
 .reg [.o 59 (.n .add 27 (.k 1)),.m 27 59] [46,47,48,49,59]
def c136_2:C:=
 .q [.o 28 (.n .lss 27 26)] [] (.seq (.cond 28 .skip (.exit 2)) (.seq (.blk 3 (.q [.o 29 (.ia 11 25 27),.o 30 (.ld 11 true 29),.o 7 (.alloc [.i .i64 0,.i .i64 0,.i .i64 0,.sl 1 true [] .ro,.i .i64 0,.sl 4 true [] .ro,.i .i64 0,.i .i64 0,.i .i64 0,.s [],.i .i64 0]),.e (.st 11 true 7 30)] [28,29,30] (.seq (.q [.o 31 (.fa 0 7),.o 32 (.fa 3 31),.o 33 (.ld 1 false 32),.o 34 (.len false 33),.m 35 (.k 0)] [31,32] (.blk 4 (.loop [] c136_1))) c136_r0))) c136_r1))
def c136_r2:C:=
 .reg [.o 60 (.n .add 14 (.k 1)),.m 14 60] [25,26,27,28,60]
def c136_3:C:=
 .q [.o 15 (.n .lss 14 13)] [] (.seq (.cond 15 .skip (.exit 0)) (.seq (.blk 1 (.q [.o 16 (.ia 2 12 14),.o 17 (.ld 2 true 16),.o 5 (.alloc [.i .i64 0,.sl 11 true [] .ro]),.e (.st 2 true 5 17)] [15,16,17] (.q [.m 18 3,.o 19 (.fa 1 5),.o 20 (.ld 1 false 19),.o 21 (.len false 20),.o 22 (.n .add (.k 1) 21),.o 23 (.n .add 18 22),.m 3 23] [18,19,20,21,22,23] (.q [.o 24 (.fa 1 5),.o 25 (.ld 1 false 24),.o 26 (.len false 25),.m 27 (.k 0)] [5,24] (.blk 2 (.loop [] c136_2)))))) c136_r2))
def c136_r3:C:=
 .q [.m 61 3,.m 2 61] [3,12,13,14,15,61] .ret
def c136:C:=
 (.q [.m 2 (.k 0)] [2] (.q [.m 3 (.k 0)] [] (.seq (.q [.m 12 0,.o 13 (.len false 12),.m 14 (.k 0)] [0] (.blk 0 (.loop [] c136_3))) c136_r3)))
def d136:Fn:={ real:=136,np:=1,nt:=62,res:=[.t 2],body:=c136 }
def c137:C:=
 (.q [.m 4 (.c (.b false))] [4] (.q [.m 5 0,.m 6 1,.o 7 (.call 185 true [5,6]),.o 8 (.n .geq 7 (.k 0)),.m 4 8] [0,1,5,6,7,8] .ret))
def d137:Fn:={ real:=137,np:=2,nt:=9,res:=[.t 4],body:=c137 }
def c138:C:=
 (.q [.o 1 (.box 2 true 0),.m 2 (.c (.b false))] [0,2] (.q [.o 3 (.fa 1 1),.o 4 (.ld 1 false 3),.o 5 (.len false 4),.o 6 (.n .gtr 5 (.k 64)),.m 7 6,.h 8 7 (.fa 1 1),.h 9 7 (.ld 1 false 8),.h 10 7 (.call 139 true [9,.c (.fn 140 [])]),.o 11 (.pick 7 (.c (.b true)) 10),.m 2 11] [1,3,4,5,6,7,8,9,10,11] .ret))
def d138:Fn:={ real:=138,np:=1,nt:=12,res:=[.t 2],body:=c138 }
def c139:C:=
 (.q [.m 4 (.c (.b false))] [4] (.q [.m 5 0,.m 6 1,.o 7 (.call 186 true [5,6]),.o 8 (.n .geq 7 (.k 0)),.m 4 8] [0,1,5,6,7,8] .ret))
def d139:Fn:={ real:=139,np:=2,nt:=9,res:=[.t 4],body:=c139 }
def c140:C:=
 (.q [.o 1 (.box 11 true 0),.m 2 (.c (.b false))] [0,2] (.q [.o 3 (.fa 10 1),.o 4 (.ld 1 false 3),.o 5 (.n .gtr 4 (.k 64)),.m 6 5,.h 7 6 (.fa 0 1),.h 8 6 (.fa 5 7),.h 9 6 (.ld 1 false 8),.h 10 6 (.len false 9),.h 11 6 (.n .gtr 10 (.k 1024)),.o 12 (.pick 6 (.c (.b true)) 11),.m 2 12] [1,3,4,5,6,7,8,9,10,11,12] .ret))
def d140:Fn:={ real:=140,np:=1,nt:=13,res:=[.t 2],body:=c140 }
def c141_0:C:=
 .q [.o 14 (.n .lss 13 12)] [] (.seq (.cond 14 .skip (.exit 0)) (.seq (.blk 1 (.q [.m 15 13,.o 16 (.ia 11 11 13),.o 17 (.ld 11 true 16),.o 8 (.alloc [.i .i64 0,.i .i64 0,.i .i64 0,.sl 1 true [] .ro,.i .i64 0,.sl 4 true [] .ro,.i .i64 0,.i .i64 0,.i .i64 0,.s [],.i .i64 0]),.m 7 15,.e (.st 11 true 8 17)] [14,15,16,17] (.seq (.q [.m 18 7,.m 19 1,.o 20 (.len false 19),.o 21 (.n .geq 18 20)] [18,19,20] (.cond 21 (.q [.m 6 (.k 1)] [0,1,2,7,8,11,12,13,21] .ret) .skip)) (.q [.m 22 1,.m 23 7,.o 24 (.ia 11 22 23),.o 25 (.ld 11 true 24),.o 9 (.alloc [.i .i64 0,.i .i64 0,.i .i64 0,.sl 1 true [] .ro,.i .i64 0,.sl 4 true [] .ro,.i .i64 0,.i .i64 0,.i .i64 0,.s [],.i .i64 0]),.e (.st 11 true 9 25)] [7,21,22,23,24,25] (.q [.m 26 2,.o 27 (.ld 11 true 8),.o 28 (.ld 11 true 9),.o 29 (.calld 26 true [27,28]),.m 10 29] [8,9,26,27,28,29] (.q [.m 30 10,.o 31 (.n .neq 30 (.k 0))] [30] (.cond 31 (.q [.m 32 10,.m 6 32] [0,1,2,10,11,12,13,31,32] .ret) .skip))))))) (.reg [.o 33 (.n .add 13 (.k 1)),.m 13 33] [10,31,33])))
def c141_r0:C:=
 .seq (.q [.m 34 0,.o 35 (.len false 34),.m 36 1,.o 37 (.len false 36),.o 38 (.n .lss 35 37)] [0,1,2,11,12,13,14,34,35,36,37] (.cond 38 (.q [.o 6 (.mv (.k (-1)))] [38] .ret) .skip)) (.q [.m 6 (.k 0)] [38] .ret)
def c141:C:=
 (.q [.m 6 (.k 0)] [6] (.seq (.q [.m 11 0,.o 12 (.len false 11),.m 13 (.k 0)] [] (.blk 0 (.loop [] c141_0))) c141_r0))
def d141:Fn:={ real:=141,np:=3,nt:=39,res:=[.t 6],body:=c141 }
def c142:C:=
 (.q [.o 2 (.box 11 true 0),.o 3 (.box 11 true 1),.m 4 (.k 0)] [0,1,4] (.seq (.dreg [(0,.o 5 (.fa 0 2)),(1,.o 6 (.ld 10 true 5)),(2,.o 7 (.fa 0 3)),(3,.o 8 (.ld 10 true 7)),(4,.o 9 (.call 99 true [6,8])),(5,.o 10 (.fa 10 2)),(6,.o 11 (.ld 1 false 10)),(7,.o 12 (.fa 10 3)),(8,.o 13 (.ld 1 false 12)),(9,.o 14 (.call 144 true [11,13])),(10,.o 15 (.bsl 1 false false [9,14])),(11,.o 16 (.call 143 true [15])),(12,.m 4 16)] [2,3,5,6,7,8,9,10,11,12,13,14,15,16]) .ret))
def d142:Fn:={ real:=142,np:=2,nt:=17,res:=[.t 4],body:=c142 }
def c143_0:C:=
 .q [.o 9 (.n .lss 8 7)] [] (.seq (.cond 9 .skip (.exit 0)) (.seq (.blk 1 (.q [.o 10 (.ia 1 6 8),.o 11 (.ld 1 false 10),.m 5 11] [9,10,11] (.q [.m 12 5,.m 13 3,.o 14 (.n .neq 12 13)] [12,13] (.cond 14 (.q [.m 15 5,.m 2 15] [3,5,6,7,8,14,15] .ret) .skip)))) (.reg [.o 16 (.n .add 8 (.k 1)),.m 8 16] [5,14,16])))
def c143_r0:C:=
 .q [.m 17 3,.m 2 17] [3,6,7,8,9,17] .ret
def c143:C:=
 (.q [.m 2 (.k 0)] [2] (.q [.m 3 (.k 0)] [] (.seq (.q [.m 6 0,.o 7 (.len false 6),.m 8 (.k 0)] [0] (.blk 0 (.loop [] c143_0))) c143_r0)))
def d143:Fn:={ real:=143,np:=1,nt:=18,res:=[.t 2],body:=c143 }
def c144:C:=
 (.q [.m 4 (.k 0)] [4] (.q [.m 7 0,.o 8 (.call 187 true [7]),.m 5 8] [7,8] (.q [.m 9 1,.o 10 (.call 187 true [9]),.m 6 10] [9,10] (.seq (.q [.m 11 5] [5] (.cond 11 (.seq (.q [.m 12 6] [0,1,6,11] (.cond 12 (.q [.m 4 (.k 0)] [12] .ret) .skip)) (.q [.o 4 (.mv (.k (-1)))] [12] .ret)) .skip)) (.seq (.q [.m 13 6] [6,11] (.cond 13 (.q [.m 4 (.k 1)] [0,1,13] .ret) .skip)) (.seq (.q [.m 14 0,.m 15 1,.o 16 (.n .lss 14 15)] [13,14,15] (.cond 16 (.q [.o 4 (.mv (.k (-1)))] [0,1,16] .ret) .skip)) (.seq (.q [.m 17 0,.m 18 1,.o 19 (.n .gtr 17 18)] [0,1,16,17,18] (.cond 19 (.q [.m 4 (.k 1)] [19] .ret) .skip)) (.q [.m 4 (.k 0)] [19] .ret))))))))
def d144:Fn:={ real:=144,np:=2,nt:=20,res:=[.t 4],body:=c144 }
def c145_0:C:=
 .q [.o 14 (.n .lss 13 12)] [] (.seq (.cond 14 .skip (.exit 0)) (.seq (.blk 1 (.q [.m 15 13,.o 16 (.ia 1 11 13),.o 17 (.ld 1 false 16),.m 7 15,.m 8 17] [14,15,16,17] (.seq (.q [.m 18 7,.m 19 1,.o 20 (.len false 19),.o 21 (.n .geq 18 20)] [18,19,20] (.cond 21 (.q [.m 6 (.k 1)] [0,1,2,7,8,11,12,13,21] .ret) .skip)) (.q [.m 22 1,.m 23 7,.o 24 (.ia 1 22 23),.o 25 (.ld 1 false 24),.m 9 25] [7,21,22,23,24,25] (.q [.m 26 2,.m 27 8,.m 28 9,.o 29 (.calld 26 true [27,28]),.m 10 29] [8,9,26,27,28,29] (.q [.m 30 10,.o 31 (.n .neq 30 (.k 0))] [30] (.cond 31 (.q [.m 32 10,.m 6 32] [0,1,2,10,11,12,13,31,32] .ret) .skip))))))) (.reg [.o 33 (.n .add 13 (.k 1)),.m 13 33] [10,31,33])))
def c145_r0:C:=
 .seq (.q [.m 34 0,.o 35 (.len false 34),.m 36 1,.o 37 (.len false 36),.o 38 (.n .lss 35 37)] [0,1,2,11,12,13,14,34,35,36,37] (.cond 38 (.q [.o 6 (.mv (.k (-1)))] [38] .ret) .skip)) (.q [.m 6 (.k 0)] [38] .ret)
def c145:C:=
 (.q [.m 6 (.k 0)] [6] (.seq (.q [.m 11 0,.o 12 (.len false 11),.m 13 (.k 0)] [] (.blk 0 (.loop [] c145_0))) c145_r0))
def d145:Fn:={ real:=145,np:=3,nt:=39,res:=[.t 6],body:=c145 }
def c146:C:=
 (.q [.m 4 (.k 0)] [4] (.q [.m 5 0,.m 6 1,.o 7 (.call 188 true [5,6,.c (.fn 189 [])]),.m 4 7] [0,1,5,6,7] .ret))
def d146:Fn:={ real:=146,np:=2,nt:=8,res:=[.t 4],body:=c146 }
def c147_0:C:=
 .q [.o 14 (.n .lss 13 12)] [] (.seq (.cond 14 .skip (.exit 0)) (.seq (.blk 1 (.q [.m 15 13,.o 16 (.ia 4 11 13),.o 17 (.ld 4 true 16),.o 8 (.alloc [.i .i64 0,.i .i64 0,.s [],.sl 2 true [] .ro]),.m 7 15,.e (.st 4 true 8 17)] [14,15,16,17] (.seq (.q [.m 18 7,.m 19 1,.o 20 (.len false 19),.o 21 (.n .geq 18 20)] [18,19,20] (.cond 21 (.q [.m 6 (.k 1)] [0,1,2,7,8,11,12,13,21] .ret) .skip)) (.q [.m 22 1,.m 23 7,.o 24 (.ia 4 22 23),.o 25 (.ld 4 true 24),.o 9 (.alloc [.i .i64 0,.i .i64 0,.s [],.sl 2 true [] .ro]),.e (.st 4 true 9 25)] [7,21,22,23,24,25] (.q [.m 26 2,.o 27 (.ld 4 true 8),.o 28 (.ld 4 true 9),.o 29 (.calld 26 true [27,28]),.m 10 29] [8,9,26,27,28,29] (.q [.m 30 10,.o 31 (.n .neq 30 (.k 0))] [30] (.cond 31 (.q [.m 32 10,.m 6 32] [0,1,2,10,11,12,13,31,32] .ret) .skip))))))) (.reg [.o 33 (.n .add 13 (.k 1)),.m 13 33] [10,31,33])))
def c147_r0:C:=
 .seq (.q [.m 34 0,.o 35 (.len false 34),.m 36 1,.o 37 (.len false 36),.o 38 (.n .lss 35 37)] [0,1,2,11,12,13,14,34,35,36,37] (.cond 38 (.q [.o 6 (.mv (.k (-1)))] [38] .ret) .skip)) (.q [.m 6 (.k 0)] [38] .ret)
def c147:C:=
 (.q [.m 6 (.k 0)] [6] (.seq (.q [.m 11 0,.o 12 (.len false 11),.m 13 (.k 0)] [] (.blk 0 (.loop [] c147_0))) c147_r0))
def d147:Fn:={ real:=147,np:=3,nt:=39,res:=[.t 6],body:=c147 }
def c148:C:=
 (.q [.o 2 (.box 4 true 0),.o 3 (.box 4 true 1),.m 4 (.k 0)] [0,1,4] (.seq (.dreg [(0,.o 5 (.fa 0 2)),(1,.o 6 (.ld 3 true 5)),(2,.o 7 (.fa 0 3)),(3,.o 8 (.ld 3 true 7)),(4,.o 9 (.call 149 true [6,8])),(5,.o 10 (.fa 3 2)),(6,.o 11 (.ld 1 false 10)),(7,.o 12 (.fa 3 3)),(8,.o 13 (.ld 1 false 12)),(9,.o 14 (.call 146 true [11,13])),(10,.o 15 (.bsl 1 false false [9,14])),(11,.o 16 (.call 143 true [15])),(12,.m 4 16)] [2,3,5,6,7,8,9,10,11,12,13,14,15,16]) .ret))
def d148:Fn:={ real:=148,np:=2,nt:=17,res:=[.t 4],body:=c148 }
def c149:C:=
 (.q [.o 2 (.box 3 true 0),.o 3 (.box 3 true 1),.m 4 (.k 0)] [0,1,4] (.seq (.dreg [(0,.o 5 (.fa 0 2)),(1,.o 6 (.ld 1 false 5)),(2,.o 7 (.fa 0 3)),(3,.o 8 (.ld 1 false 7)),(4,.o 9 (.call 144 true [6,8])),(5,.o 10 (.fa 1 2)),(6,.o 11 (.ld 1 false 10)),(7,.o 12 (.fa 1 3)),(8,.o 13 (.ld 1 false 12)),(9,.o 14 (.call 190 true [11,13])),(10,.o 15 (.fa 2 2)),(11,.o 16 (.ld 1 false 15)),(12,.o 17 (.fa 2 3)),(13,.o 18 (.ld 1 false 17)),(14,.o 19 (.call 191 true [16,18])),(15,.o 20 (.bsl 1 false false [9,14,19])),(16,.o 21 (.call 143 true [20])),(17,.m 4 21)] [2,3,5,6,7,8,9,10,11,12,13,14,15,16,17,18,19,20,21]) .ret))
def d149:Fn:={ real:=149,np:=2,nt:=22,res:=[.t 4],body:=c149 }
def c150:C:=
 (.q [.m 2 (.c (.b false))] [2] (.q [.m 3 0,.o 4 (.call 60 true [3]),.o 5 (.un .not 4),.m 6 5,.h 7 6 (.mv 0),.h 8 6 (.len false 7),.h 9 6 (.n .eql 8 (.k 0)),.o 10 (.pick 6 (.c (.b true)) 9),.m 2 10] [0,3,4,5,6,7,8,9,10] .ret))
def d150:Fn:={ real:=150,np:=1,nt:=11,res:=[.t 2],body:=c150 }
def c151:C:=
 (.q [.m 4 (.c (.b false))] [4] (.q [.m 5 0,.m 6 1,.o 7 (.call 146 true [5,6]),.o 8 (.n .eql 7 (.k 0)),.m 4 8] [0,1,5,6,7,8] .ret))
def d151:Fn:={ real:=151,np:=2,nt:=9,res:=[.t 4],body:=c151 }
def c152:C:=
 (.q [.m 2 (.c (.b false))] [2] (.q [.m 3 0,.o 4 (.len false 3),.o 5 (.n .eql 4 (.k 1)),.m 6 5,.g 7 6 (.mv 0),.g 8 6 (.ia 2 7 (.k 0)),.g 9 6 (.fa 1 8),.g 10 6 (.ld 1 false 9),.g 11 6 (.len false 10),.g 12 6 (.n .eql 11 (.k 0)),.o 13 (.pick 6 12 (.c (.b false))),.m 2 13] [0,3,4,5,6,7,8,9,10,11,12,13] .ret))
def d152:Fn:={ real:=152,np:=1,nt:=14,res:=[.t 2],body:=c152 }
def c153:C:=
 (.q [.m 2 (.c (.b false))] [2] (.seq (.q [.m 4 0,.o 5 (.len false 4),.o 6 (.n .neq 5 (.k 1)),.m 7 6,.h 8 7 (.mv 0),.h 9 7 (.ia 2 8 (.k 0)),.h 10 7 (.fa 0 9),.h 11 7 (.ld 1 false 10),.h 12 7 (.n .neq 11 (.k 1)),.o 13 (.pick 7 (.c (.b true)) 12),.m 14 13,.h 15 14 (.mv 0),.h 16 14 (.ia 2 15 (.k 0)),.h 17 14 (.fa 1 16),.h 18 14 (.ld 1 false 17),.h 19 14 (.len false 18),.h 20 14 (.n .neq 19 (.k 1)),.o 21 (.pick 14 (.c (.b true)) 20)] [4,5,6,7,8,9,10,11,12,13,14,15,16,17,18,19,20] (.cond 21 (.q [.m 2 (.c (.b false))] [0,21] .ret) .skip)) (.q [.m 22 0,.o 23 (.ia 2 22 (.k 0)),.o 24 (.fa 1 23),.o 25 (.ld 1 false 24),.o 26 (.ia 11 25 (.k 0)),.o 27 (.ld 11 true 26),.o 3 (.alloc [.i .i64 0,.i .i64 0,.i .i64 0,.sl 1 true [] .ro,.i .i64 0,.sl 4 true [] .ro,.i .i64 0,.i .i64 0,.i .i64 0,.s [],.i .i64 0]),.e (.st 11 true 3 27)] [0,21,22,23,24,25,26,27] (.q [.o 28 (.fa 10 3),.o 29 (.ld 1 false 28),.o 30 (.n .eql 29 (.k 1)),.m 31 30,.g 32 31 (.fa 0 3),.g 33 31 (.fa 0 32),.g 34 31 (.ld 1 false 33),.g 35 31 (.n .eql 34 (.k 2)),.g 36 31 (.mv 35),.h 37 36 (.fa 0 3),.h 38 36 (.ld 10 true 37),.h 39 36 (.call 98 true [38]),.g 40 31 (.pick 36 (.c (.b true)) 39),.o 41 (.pick 31 40 (.c (.b false))),.m 2 41] [3,28,29,30,31,32,33,34,35,36,37,38,39,40,41] .ret))))
def d153:Fn:={ real:=153,np:=1,nt:=42,res:=[.t 2],body:=c153 }
def c154:C:=
 (.q [.m 2 (.c (.b false))] [2] (.q [.m 3 0,.o 4 (.call 137 true [3,.c (.fn 192 [])]),.m 2 4] [0,3,4] .ret))
def d154:Fn:={ real:=154,np:=1,nt:=5,res:=[.t 2],body:=c154 }
def c155:C:=
 (.q [.m 4 (.c (.b false))] [4] (.q [.m 5 0,.m 6 1,.o 7 (.call 193 true [5,6]),.o 8 (.n .geq 7 (.k 0)),.m 4 8] [0,1,5,6,7,8] .ret))
def d155:Fn:={ real:=155,np:=2,nt:=9,res:=[.t 4],body:=c155 }
def c156:C:=
 (.q [.o 1 (.box 4 true 0),.m 2 (.c (.b false))] [0,2] (.q [.o 3 (.fa 3 1),.o 4 (.ld 1 false 3),.o 5 (.call 60 true [4]),.o 6 (.un .not 5),.m 7 6,.h 8 7 (.fa 3 1),.h 9 7 (.ld 1 false 8),.h 10 7 (.len false 9),.h 11 7 (.n .eql 10 (.k 0)),.o 12 (.pick 7 (.c (.b true)) 11),.m 2 12] [1,3,4,5,6,7,8,9,10,11,12] .ret))
def d156:Fn:={ real:=156,np:=1,nt:=13,res:=[.t 2],body:=c156 }
def c157_0:C:=
 .seq (.q [.m 9 5,.o 10 (.n .gtr 9 (.k 0))] [9] (.cond 10 .skip (.exit 0))) (.seq (.blk 1 (.seq (.dreg [(0,.m 13 1),(1,.m 14 0),(2,.m 15 5),(3,.o 16 (.ia 4 14 15)),(4,.o 17 (.ld 4 true 16)),(5,.m 18 0),(6,.m 19 5),(7,.o 20 (.n .sub 19 (.k 1))),(8,.o 21 (.ia 4 18 20)),(9,.o 22 (.ld 4 true 21)),(10,.o 23 (.calld 13 true [17,22])),(11,.o 24 (.n .lss 23 (.k 0)))] [10,13,14,15,16,17,18,19,20,21,22,23]) (.cond 24 (.q [.m 4 (.c (.b false))] [0,1,5,24] .ret) .skip))) (.reg [.m 11 5,.o 12 (.n .sub 11 (.k 1)),.m 5 12] [11,12,24]))
def c157_r0:C:=
 .q [.m 4 (.c (.b true))] [0,1,5,10] .ret
def c157:C:=
 (.q [.m 4 (.c (.b false))] [4] (.seq (.q [.m 6 0,.o 7 (.len false 6),.o 8 (.n .sub 7 (.k 1)),.m 5 8] [6,7,8] (.blk 0 (.loop [] c157_0))) c157_r0))
def d157:Fn:={ real:=157,np:=2,nt:=25,res:=[.t 4],body:=c157 }
def c158:C:=
 (.q [.o 4 (.box 1 false 0),.o 7 (.box 3 true 3),.m 8 (.c (.b false))] [0,3,8] (.seq (.q [.o 9 (.ld 1 false 4),.o 10 (.n .lss 9 (.k 0)),.m 11 10,.h 12 11 (.ld 1 false 4),.h 13 11 (.n .gtr 12 (.k 3)),.o 14 (.pick 11 (.c (.b true)) 13),.m 15 14,.h 16 15 (.mv 2),.h 17 15 (.n .lss 16 (.k 5)),.o 18 (.pick 15 (.c (.b true)) 17),.m 19 18,.h 20 19 (.mv 2),.h 21 19 (.n .gtr 20 (.k 10)),.o 22 (.pick 19 (.c (.b true)) 21),.m 23 22,.h 24 23 (.ld 3 true 7),.h 25 23 (.call 194 true [24]),.h 26 23 (.un .not 25),.o 27 (.pick 23 (.c (.b true)) 26)] [2,9,10,11,12,13,14,15,16,17,18,19,20,21,22,23,24,25,26] (.cond 27 (.q [.m 8 (.c (.b false))] [1,4,7,27] .ret) .skip)) (.seq (.q [.o 28 (.ld 1 false 4),.o 29 (.n .eql 28 (.k 0)),.m 30 29,.h 31 30 (.ld 1 false 4),.h 32 30 (.n .eql 31 (.k 1)),.o 33 (.pick 30 (.c (.b true)) 32),.m 34 33,.g 35 34 (.fa 0 7),.g 36 34 (.ld 1 false 35),.g 37 34 (.n .neq 36 (.k 0)),.o 38 (.pick 34 37 (.c (.b false)))] [27,28,29,30,31,32,33,34,35,36,37] (.cond 38 (.q [.m 8 (.c (.b false))] [1,4,7,38] .ret) .skip)) (.q [.m 39 1,.o 40 (.mkfn 195 [7,4]),.o 41 (.call 2155 false [39,40]),.o 42 (.un .not 41),.m 8 42] [1,4,7,38,39,40,41,42] .ret))))
def d158:Fn:={ real:=158,np:=4,nt:=43,res:=[.t 8],body:=c158 }
def c159_0:C:=
 .q [.o 9 (.n .lss 8 7)] [] (.seq (.cond 9 .skip (.exit 0)) (.seq (.blk 1 (.q [.m 10 8,.m 5 10] [9,10] (.q [.m 11 1,.m 12 0,.m 13 5,.o 14 (.ia 1 12 13),.o 15 (.ld 1 false 14),.o 16 (.calld 11 true [15])] [11,12,13,14,15] (.cond 16 (.q [.m 17 5,.m 4 17] [0,1,5,7,8,16,17] .ret) .skip)))) (.reg [.o 18 (.n .add 8 (.k 1)),.m 8 18] [5,16,18])))
def c159_r0:C:=
 .q [.o 4 (.mv (.k (-1)))] [0,1,7,8,9] .ret
def c159:C:=
 (.q [.m 4 (.k 0)] [4] (.seq (.q [.m 6 0,.o 7 (.len false 6),.m 8 (.k 0)] [6] (.blk 0 (.loop [] c159_0))) c159_r0))
def d159:Fn:={ real:=159,np:=2,nt:=19,res:=[.t 4],body:=c159 }
def c160:C:=
 (.q [.o 2 (.box 2 true 0),.o 3 (.box 10 true 1),.o 4 (.alloc [.sl 2 true [] .ro,.sl 3 true [] .ro,.i .i64 0]),.m 5 (.k 0)] [0,1,5] (.seq (.q [.o 9 (.fa 0 3),.o 10 (.ld 1 false 9),.o 11 (.n .eql 10 (.k 0))] [9,10] (.cond 11 (.q [.o 12 (.fa 0 2),.o 13 (.ld 1 false 12),.o 14 (.fa 1 3),.o 15 (.ld 2 true 14),.o 16 (.call 14 true [13,15]),.o 17 (.ext 16 0),.o 18 (.ext 16 1),.e (.st 3 true 4 17),.m 5 18] [2,3,11,12,13,14,15,16,17,18] .ret) .skip)) (.seq (.dreg [(0,.o 20 (.ld 2 true 2)),(1,.o 21 (.fa 3 3)),(2,.o 22 (.ld 1 false 21)),(3,.o 23 (.ia 1 22 (.k 0))),(4,.o 24 (.ld 1 false 23)),(5,.o 25 (.call 66 true [20,24])),(6,.m 19 25),(7,.o 26 (.ext 19 0)),(8,.o 27 (.ext 19 1)),(9,.o 6 (.alloc [.sl 2 true [] .ro,.sl 3 true [] .ro,.i .i64 0])),(0,.ck 20 (.ld 2 true 2)),(2,.ck 22 (.ld 1 false 21)),(4,.ck 24 (.ld 1 false 23)),(10,.e (.st 3 true 6 26)),(11,.m 7 27)] [11,19,20,21,22,23,24,25,26,27]) (.seq (.q [.m 28 7,.o 29 (.n .neq 28 (.k 0)),.m 30 29,.h 31 30 (.fa 0 3),.h 32 30 (.ld 1 false 31),.h 33 30 (.n .eql 32 (.k 2)),.o 34 (.pick 30 (.c (.b true)) 33)] [28,29,30,31,32,33] (.cond 34 (.q [.o 35 (.ld 3 true 6),.m 36 7,.e (.st 3 true 4 35),.m 5 36] [2,3,6,7,34,35,36] .ret) .skip)) (.seq (.q [.o 37 (.fa 0 3),.o 38 (.ld 1 false 37),.o 39 (.n .eql 38 (.k 3))] [7,34,37,38] (.cond 39 (.q [.o 40 (.ld 3 true 6),.o 41 (.call 23 true [40]),.e (.st 3 true 4 41),.m 5 (.k 0)] [2,3,6,39,40,41] .ret) .skip)) (.seq (.dreg [(0,.o 43 (.ld 2 true 2)),(1,.o 44 (.fa 3 3)),(2,.o 45 (.ld 1 false 44)),(3,.o 46 (.ia 1 45 (.k 1))),(4,.o 47 (.ld 1 false 46)),(5,.o 48 (.call 66 true [43,47])),(6,.m 42 48),(7,.o 49 (.ext 42 0)),(8,.o 50 (.ext 42 1)),(9,.o 8 (.alloc [.sl 2 true [] .ro,.sl 3 true [] .ro,.i .i64 0])),(0,.ck 43 (.ld 2 true 2)),(2,.ck 45 (.ld 1 false 44)),(4,.ck 47 (.ld 1 false 46)),(10,.e (.st 3 true 8 49)),(11,.m 7 50)] [3,39,42,43,44,45,46,47,48,49,50]) (.seq (.q [.m 51 7,.o 52 (.n .neq 51 (.k 0))] [51] (.cond 52 (.q [.o 53 (.bld [.sl 2 true [] .ro,.sl 3 true [] .ro,.i .i64 0] []),.m 54 7,.e (.st 3 true 4 53),.m 5 54] [2,6,7,8,52,53,54] .ret) .skip)) (.seq (.dreg [(0,.o 55 (.ld 2 true 2)),(1,.o 56 (.ld 3 true 6)),(2,.o 57 (.ld 3 true 8)),(3,.o 58 (.call 23 true [57])),(4,.o 59 (.call 21 true [56,58])),(5,.o 60 (.ext 59 0)),(6,.o 61 (.ext 59 1)),(7,.o 62 (.call 106 true [55,60,61])),(8,.o 63 (.ext 62 0)),(9,.o 64 (.ext 62 1)),(10,.e (.st 3 true 4 63)),(11,.m 5 64)] [2,6,7,8,52,55,56,57,58,59,60,61,62,63,64]) .ret))))))))
def d160:Fn:={ real:=160,np:=2,nt:=65,res:=[.cell 4 3 true,.t 5],body:=c160 }
def c161_0:C:=
 .seq (.q [.m 54 9,.o 55 (.fa 5 6),.o 56 (.ld 1 false 55),.o 57 (.len false 56),.o 58 (.n .lss 54 57)] [54,55,56,57] (.cond 58 .skip (.exit 6))) (.seq (.blk 7 (.reg [.m 61 7,.o 62 (.fa 5 6),.o 63 (.ld 1 false 62),.m 64 9,.o 65 (.ia 4 63 64),.o 66 (.fa 3 65),.o 67 (.ld 1 false 66),.o 68 (.call 161 true [67]),.o 69 (.n .add (.k 1) 68),.o 70 (.mx 61 69),.m 7 70] [58,61,62,63,64,65,66,67,68,69,70])) (.reg [.m 59 9,.o 60 (.n .add 59 (.k 1)),.m 9 60] [59,60]))
def c161_1:C:=
 .seq (.q [.m 38 8,.o 39 (.fa 3 6),.o 40 (.ld 1 false 39),.o 41 (.len false 40),.o 42 (.n .lss 38 41)] [38,39,40,41] (.cond 42 .skip (.exit 4))) (.seq (.blk 5 (.reg [.m 45 7,.o 46 (.fa 3 6),.o 47 (.ld 1 false 46),.m 48 8,.o 49 (.ia 1 47 48),.o 50 (.ld 1 false 49),.o 51 (.call 161 true [50]),.o 52 (.n .add (.k 1) 51),.o 53 (.mx 45 52),.m 7 53] [42,45,46,47,48,49,50,51,52,53])) (.reg [.m 43 8,.o 44 (.n .add 43 (.k 1)),.m 8 44] [43,44]))
def c161_r0:C:=
 .reg [.m 71 3,.m 72 7,.o 73 (.mx 71 72),.m 3 73] [6,7,9,58,71,72,73]
def c161_r1:C:=
 .seq (.q [.m 9 (.k 0)] [8,42] (.blk 6 (.loop [] c161_0))) c161_r0
def c161_r2:C:=
 .reg [.m 24 5,.o 25 (.n .add 24 (.k 1)),.m 5 25] [6,24,25,37]
def c161_2:C:=
 .seq (.q [.m 16 5,.m 17 0,.m 18 4,.o 19 (.ia 2 17 18),.o 20 (.fa 1 19),.o 21 (.ld 1 false 20),.o 22 (.len false 21),.o 23 (.n .lss 16 22)] [16,17,18,19,20,21,22] (.cond 23 .skip (.exit 2))) (.seq (.blk 3 (.q [.m 26 0,.m 27 4,.o 28 (.ia 2 26 27),.o 29 (.fa 1 28),.o 30 (.ld 1 false 29),.m 31 5,.o 32 (.ia 11 30 31),.o 33 (.fa 0 32),.o 34 (.ld 10 true 33),.o 6 (.alloc [.i .i64 0,.i .i64 0,.i .i64 0,.sl 1 true [] .ro,.i .i64 0,.sl 4 true [] .ro,.i .i64 0,.i .i64 0,.i .i64 0,.s []]),.e (.st 10 true 6 34)] [23,26,27,28,29,30,31,32,33,34] (.seq (.q [.o 35 (.fa 0 6),.o 36 (.ld 1 false 35),.o 37 (.n .eql 36 (.k 0))] [35,36] (.cond 37 (.exit 3) .skip)) (.q [.m 7 (.k 1)] [37] (.seq (.q [.m 8 (.k 0)] [] (.blk 4 (.loop [] c161_1))) c161_r1))))) c161_r2)
def c161_r3:C:=
 .reg [.m 14 4,.o 15 (.n .add 14 (.k 1)),.m 4 15] [5,14,15,23]
def c161_3:C:=
 .seq (.q [.m 10 4,.m 11 0,.o 12 (.len false 11),.o 13 (.n .lss 10 12)] [10,11,12] (.cond 13 .skip (.exit 0))) (.seq (.blk 1 (.q [.m 5 (.k 0)] [13] (.blk 2 (.loop [] c161_2)))) c161_r3)
def c161_r4:C:=
 .q [.m 74 3,.m 2 74] [0,3,4,13,74] .ret
def c161:C:=
 (.q [.m 2 (.k 0)] [2] (.q [.m 3 (.k 0)] [] (.seq (.q [.m 4 (.k 0)] [] (.blk 0 (.loop [] c161_3))) c161_r4)))
def d161:Fn:={ real:=161,np:=1,nt:=75,res:=[.t 2],body:=c161 }
def c162_0:C:=
 .seq (.q [.m 53 8,.o 54 (.fa 5 6),.o 55 (.ld 1 false 54),.o 56 (.len false 55),.o 57 (.n .lss 53 56)] [53,54,55,56] (.cond 57 .skip (.exit 6))) (.seq (.blk 7 (.reg [.m 60 3,.o 61 (.n .add 60 (.k 1)),.o 62 (.fa 5 6),.o 63 (.ld 1 false 62),.m 64 8,.o 65 (.ia 4 63 64),.o 66 (.fa 3 65),.o 67 (.ld 1 false 66),.o 68 (.call 162 true [67]),.o 69 (.n .add 61 68),.m 3 69] [57,60,61,62,63,64,65,66,67,68,69])) (.reg [.m 58 8,.o 59 (.n .add 58 (.k 1)),.m 8 59] [58,59]))
def c162_1:C:=
 .seq (.q [.m 38 7,.o 39 (.fa 3 6),.o 40 (.ld 1 false 39),.o 41 (.len false 40),.o 42 (.n .lss 38 41)] [38,39,40,41] (.cond 42 .skip (.exit 4))) (.seq (.blk 5 (.reg [.m 45 3,.o 46 (.fa 3 6),.o 47 (.ld 1 false 46),.m 48 7,.o 49 (.ia 1 47 48),.o 50 (.ld 1 false 49),.o 51 (.call 162 true [50]),.o 52 (.n .add 45 51),.m 3 52] [42,45,46,47,48,49,50,51,52])) (.reg [.m 43 7,.o 44 (.n .add 43 (.k 1)),.m 7 44] [43,44]))
def c162_r0:C:=
 .q [.m 8 (.k 0)] [7,42] (.blk 6 (.loop [] c162_0))
def c162_r1:C:=
 .reg [.m 25 5,.o 26 (.n .add 25 (.k 1)),.m 5 26] [6,8,25,26,57]
def c162_2:C:=
 .seq (.q [.m 17 5,.m 18 0,.m 19 4,.o 20 (.ia 2 18 19),.o 21 (.fa 1 20),.o 22 (.ld 1 false 21),.o 23 (.len false 22),.o 24 (.n .lss 17 23)] [17,18,19,20,21,22,23] (.cond 24 .skip (.exit 2))) (.seq (.blk 3 (.q [.m 27 3,.o 28 (.n .add 27 (.k 1)),.m 3 28] [24,27,28] (.q [.m 29 0,.m 30 4,.o 31 (.ia 2 29 30),.o 32 (.fa 1 31),.o 33 (.ld 1 false 32),.m 34 5,.o 35 (.ia 11 33 34),.o 36 (.fa 0 35),.o 37 (.ld 10 true 36),.o 6 (.alloc [.i .i64 0,.i .i64 0,.i .i64 0,.sl 1 true [] .ro,.i .i64 0,.sl 4 true [] .ro,.i .i64 0,.i .i64 0,.i .i64 0,.s []]),.e (.st 10 true 6 37)] [29,30,31,32,33,34,35,36,37] (.seq (.q [.m 7 (.k 0)] [] (.blk 4 (.loop [] c162_1))) c162_r0)))) c162_r1)
def c162_r2:C:=
 .reg [.m 13 4,.o 14 (.n .add 13 (.k 1)),.m 4 14] [5,13,14,24]
def c162_3:C:=
 .seq (.q [.m 9 4,.m 10 0,.o 11 (.len false 10),.o 12 (.n .lss 9 11)] [9,10,11] (.cond 12 .skip (.exit 0))) (.seq (.blk 1 (.q [.m 15 3,.o 16 (.n .add 15 (.k 1)),.m 3 16] [12,15,16] (.q [.m 5 (.k 0)] [] (.blk 2 (.loop [] c162_2))))) c162_r2)
def c162_r3:C:=
 .q [.m 70 3,.m 2 70] [0,3,4,12,70] .ret
def c162:C:=
 (.q [.m 2 (.k 0)] [2] (.q [.m 3 (.k 0)] [] (.seq (.q [.m 4 (.k 0)] [] (.blk 0 (.loop [] c162_3))) c162_r3)))
def d162:Fn:={ real:=162,np:=1,nt:=71,res:=[.t 2],body:=c162 }
def c163:C:=
 (.q [.m 4 (.k 0)] [4] (.seq (.q [.m 5 0,.m 6 1,.o 7 (.n .lss 5 6)] [5,6] (.cond 7 (.q [.o 4 (.mv (.k (-1)))] [0,1,7] .ret) .skip)) (.seq (.q [.m 8 0,.m 9 1,.o 10 (.n .gtr 8 9)] [0,1,7,8,9] (.cond 10 (.q [.m 4 (.k 1)] [10] .ret) .skip)) (.q [.m 4 (.k 0)] [10] .ret))))
def d163:Fn:={ real:=163,np:=2,nt:=11,res:=[.t 4],body:=c163 }
def c164:C:=
 (.q [.o 1 (.box 10 true 0),.m 2 (.c (.b false))] [0,2] (.q [.o 3 (.fa 4 1),.o 4 (.ld 1 false 3),.o 5 (.n .eql 4 (.k 0)),.m 6 5,.g 7 6 (.fa 5 1),.g 8 6 (.ld 1 false 7),.g 9 6 (.len false 8),.g 10 6 (.n .eql 9 (.k 0)),.o 11 (.pick 6 10 (.c (.b false))),.m 12 11,.g 13 12 (.fa 6 1),.g 14 12 (.ld 1 false 13),.g 15 12 (.n .eql 14 (.k 0)),.o 16 (.pick 12 15 (.c (.b false))),.m 17 16,.g 18 17 (.fa 7 1),.g 19 17 (.ld 3 true 18),.g 20 17 (.bld [.i .i64 0,.i .i64 0,.s []] []),.g 21 17 (.bin .eql (.agg [.i,.i,.s]) 19 20),.o 22 (.pick 17 21 (.c (.b false))),.m 2 22] [1,3,4,5,6,7,8,9,10,11,12,13,14,15,16,17,18,19,20,21,22] .ret))
def d164:Fn:={ real:=164,np:=1,nt:=23,res:=[.t 2],body:=c164 }
def c165:C:=
 (.q [.m 4 (.c (.b false))] [4] (.q [.m 5 0,.m 6 1,.o 7 (.call 171 true [5,6]),.o 8 (.n .eql 7 (.k 0)),.m 4 8] [0,1,5,6,7,8] .ret))
def d165:Fn:={ real:=165,np:=2,nt:=9,res:=[.t 4],body:=c165 }
def c166_0:C:=
 .seq (.q [.m 4 3,.m 5 0,.o 6 (.len false 5),.o 7 (.n .lss 4 6)] [4,5,6] (.cond 7 .skip (.exit 0))) (.seq (.blk 1 (.q [.m 10 0,.m 11 3,.o 12 (.ia 2 10 11),.o 13 (.fa 1 12),.o 14 (.ld 1 false 13),.o 15 (.len false 14),.o 16 (.n .eql 15 (.k 0))] [7,10,11,12,13,14,15] (.cond 16 (.q [.m 2 (.c (.b true))] [0,3,16] .ret) .skip))) (.reg [.m 8 3,.o 9 (.n .add 8 (.k 1)),.m 3 9] [8,9,16]))
def c166_r0:C:=
 .q [.m 2 (.c (.b false))] [0,3,7] .ret
def c166:C:=
 (.q [.m 2 (.c (.b false))] [2] (.seq (.q [.m 3 (.k 0)] [] (.blk 0 (.loop [] c166_0))) c166_r0))
def d166:Fn:={ real:=166,np:=1,nt:=17,res:=[.t 2],body:=c166 }
def c167:C:=
 (.q [.m 2 (.c (.b false))] [2] (.q [.m 3 0,.o 4 (.len false 3),.o 5 (.n .eql 4 (.k 1)),.m 6 5,.g 7 6 (.mv 0),.g 8 6 (.ia 2 7 (.k 0)),.g 9 6 (.fa 0 8),.g 10 6 (.ld 1 false 9),.g 11 6 (.n .eql 10 (.k 1)),.o 12 (.pick 6 11 (.c (.b false))),.m 13 12,.g 14 13 (.mv 0),.g 15 13 (.ia 2 14 (.k 0)),.g 16 13 (.fa 1 15),.g 17 13 (.ld 1 false 16),.g 18 13 (.len false 17),.g 19 13 (.n .eql 18 (.k 1)),.o 20 (.pick 13 19 (.c (.b false))),.m 21 20,.g 22 21 (.mv 0),.g 23 21 (.ia 2 22 (.k 0)),.g 24 21 (.fa 1 23),.g 25 21 (.ld 1 false 24),.g 26 21 (.ia 11 25 (.k 0)),.g 27 21 (.fa 0 26),.g 28 21 (.fa 0 27),.g 29 21 (.ld 1 false 28),.g 30 21 (.n .geq 29 (.k 2)),.o 31 (.pick 21 30 (.c (.b false))),.m 32 31,.g 33 32 (.mv 0),.g 34 32 (.ia 2 33 (.k 0)),.g 35 32 (.fa 1 34),.g 36 32 (.ld 1 false 35),.g 37 32 (.ia 11 36 (.k 0)),.g 38 32 (.fa 10 37),.g 39 32 (.ld 1 false 38),.g 40 32 (.n .eql 39 (.k 1)),.o 41 (.pick 32 40 (.c (.b false))),.m 2 41] [0,3,4,5,6,7,8,9,10,11,12,13,14,15,16,17,18,19,20,21,22,23,24,25,26,27,28,29,30,31,32,33,34,35,36,37,38,39,40,41] .ret))
def d167:Fn:={ real:=167,np:=1,nt:=42,res:=[.t 2],body:=c167 }
def c168_0:C:=
 .seq (.q [.m 39 9,.m 40 1,.o 41 (.len false 40),.o 42 (.n .lss 39 41)] [39,40,41] (.cond 42 .skip (.exit 0))) (.seq (.blk 1 (.q [.m 45 1,.m 46 9,.o 47 (.ia 4 45 46),.o 48 (.fa 0 47),.o 49 (.ld 3 true 48),.o 10 (.alloc [.i .i64 0,.i .i64 0,.s []]),.e (.st 3 true 10 49)] [42,45,46,47,48,49] (.q [.o 50 (.ld 3 true 10),.o 51 (.call 196 true [50]),.o 52 (.un .not 51),.m 53 52,.h 54 53 (.fa 0 10),.h 55 53 (.ld 1 false 54),.h 56 53 (.fa 0 7),.h 57 53 (.ld 1 false 56),.h 58 53 (.n .neq 55 57),.o 59 (.pick 53 (.c (.b true)) 58),.m 60 59,.h 61 60 (.mv 0),.h 62 60 (.n .eql 61 (.k 0)),.h 63 60 (.mv 62),.g 64 63 (.fa 1 10),.g 65 63 (.ld 1 false 64),.g 66 63 (.n .neq 65 (.k 1)),.h 67 60 (.pick 63 66 (.c (.b false))),.o 68 (.pick 60 (.c (.b true)) 67)] [10,50,51,52,53,54,55,56,57,58,59,60,61,62,63,64,65,66,67] (.cond 68 (.q [.m 8 (.c (.b false))] [0,1,7,9,68] .ret) .skip)))) (.reg [.m 43 9,.o 44 (.n .add 43 (.k 1)),.m 9 44] [43,44,68]))
def c168_r0:C:=
 .q [.m 8 (.c (.b true))] [0,1,7,9,42] .ret
def c168:C:=
 (.q [.o 7 (.box 3 true 3),.m 8 (.c (.b false))] [3,8] (.seq (.q [.m 11 0,.o 12 (.n .lss 11 (.k 0)),.m 13 12,.h 14 13 (.mv 0),.h 15 13 (.n .gtr 14 (.k 3)),.o 16 (.pick 13 (.c (.b true)) 15),.m 17 16,.h 18 17 (.mv 2),.h 19 17 (.n .lss 18 (.k 5)),.o 20 (.pick 17 (.c (.b true)) 19),.m 21 20,.h 22 21 (.mv 2),.h 23 21 (.n .gtr 22 (.k 10)),.o 24 (.pick 21 (.c (.b true)) 23),.m 25 24,.h 26 25 (.ld 3 true 7),.h 27 25 (.call 196 true [26]),.h 28 25 (.un .not 27),.o 29 (.pick 25 (.c (.b true)) 28),.m 30 29,.h 31 30 (.mv 0),.h 32 30 (.n .leq 31 (.k 1)),.h 33 30 (.mv 32),.g 34 33 (.fa 0 7),.g 35 33 (.ld 1 false 34),.g 36 33 (.n .neq 35 (.k 0)),.h 37 30 (.pick 33 36 (.c (.b false))),.o 38 (.pick 30 (.c (.b true)) 37)] [2,11,12,13,14,15,16,17,18,19,20,21,22,23,24,25,26,27,28,29,30,31,32,33,34,35,36,37] (.cond 38 (.q [.m 8 (.c (.b false))] [0,1,7,38] .ret) .skip)) (.seq (.q [.m 9 (.k 0)] [38] (.blk 0 (.loop [] c168_0))) c168_r0)))
def d168:Fn:={ real:=168,np:=4,nt:=69,res:=[.t 8],body:=c168 }
def c169_0:C:=
 .seq (.q [.m 8 5,.m 9 0,.o 10 (.len false 9),.o 11 (.n .lss 8 10),.m 12 11,.g 13 12 (.mv 5),.g 14 12 (.mv 1),.g 15 12 (.len false 14),.g 16 12 (.n .lss 13 15),.o 17 (.pick 12 16 (.c (.b false)))] [8,9,10,11,12,13,14,15,16] (.cond 17 .skip (.exit 0))) (.seq (.blk 1 (.seq (.seq (.dreg [(0,.m 20 0),(1,.m 21 5),(2,.o 22 (.ia 4 20 21)),(3,.o 23 (.fa 0 22)),(4,.o 24 (.ld 3 true 23)),(5,.m 25 1),(6,.m 26 5),(7,.o 27 (.ia 4 25 26)),(8,.o 28 (.fa 0 27)),(9,.o 29 (.ld 3 true 28)),(10,.o 30 (.call 172 true [24,29])),(11,.m 6 30)] [17,20,21,22,23,24,25,26,27,28,29,30]) (.q [.m 31 6,.o 32 (.n .neq 31 (.k 0))] [31] (.cond 32 (.q [.m 33 6,.m 4 33] [0,1,5,6,32,33] .ret) .skip))) (.seq (.dreg [(0,.m 34 0),(1,.m 35 5),(2,.o 36 (.ia 4 34 35)),(3,.o 37 (.fa 3 36)),(4,.o 38 (.ld 1 false 37)),(5,.m 39 1),(6,.m 40 5),(7,.o 41 (.ia 4 39 40)),(8,.o 42 (.fa 3 41)),(9,.o 43 (.ld 1 false 42)),(10,.o 44 (.call 171 true [38,43])),(11,.m 7 44)] [6,32,34,35,36,37,38,39,40,41,42,43,44]) (.q [.m 45 7,.o 46 (.n .neq 45 (.k 0))] [45] (.cond 46 (.q [.m 47 7,.m 4 47] [0,1,5,7,46,47] .ret) .skip))))) (.reg [.m 18 5,.o 19 (.n .add 18 (.k 1)),.m 5 19] [7,18,19,46]))
def c169_r0:C:=
 .q [.m 48 0,.o 49 (.len false 48),.m 50 1,.o 51 (.len false 50),.o 52 (.call 163 true [49,51]),.m 4 52] [0,1,5,17,48,49,50,51,52] .ret
def c169:C:=
 (.q [.m 4 (.k 0)] [4] (.seq (.q [.m 5 (.k 0)] [] (.blk 0 (.loop [] c169_0))) c169_r0))
def d169:Fn:={ real:=169,np:=2,nt:=53,res:=[.t 4],body:=c169 }
def c170:C:=
 (.q [.o 2 (.box 2 true 0),.o 3 (.box 2 true 1),.m 4 (.k 0)] [0,1,4] (.seq (.q [.o 6 (.fa 0 2),.o 7 (.ld 1 false 6),.o 8 (.fa 0 3),.o 9 (.ld 1 false 8),.o 10 (.call 163 true [7,9]),.m 5 10] [6,7,8,9,10] (.q [.m 11 5,.o 12 (.n .neq 11 (.k 0))] [11] (.cond 12 (.q [.m 13 5,.m 4 13] [2,3,5,12,13] .ret) .skip))) (.q [.o 14 (.fa 1 2),.o 15 (.ld 1 false 14),.o 16 (.fa 1 3),.o 17 (.ld 1 false 16),.o 18 (.call 163 true [15,17]),.m 4 18] [2,3,5,12,14,15,16,17,18] .ret)))
def d170:Fn:={ real:=170,np:=2,nt:=19,res:=[.t 4],body:=c170 }
def c171_0:C:=
 .seq (.q [.m 8 5,.m 9 0,.o 10 (.len false 9),.o 11 (.n .lss 8 10),.m 12 11,.g 13 12 (.mv 5),.g 14 12 (.mv 1),.g 15 12 (.len false 14),.g 16 12 (.n .lss 13 15),.o 17 (.pick 12 16 (.c (.b false)))] [8,9,10,11,12,13,14,15,16] (.cond 17 .skip (.exit 0))) (.seq (.blk 1 (.seq (.seq (.dreg [(0,.m 20 0),(1,.m 21 5),(2,.o 22 (.ia 2 20 21)),(3,.o 23 (.fa 1 22)),(4,.o 24 (.ld 1 false 23)),(5,.m 25 1),(6,.m 26 5),(7,.o 27 (.ia 2 25 26)),(8,.o 28 (.fa 1 27)),(9,.o 29 (.ld 1 false 28)),(10,.o 30 (.call 108 true [24,29])),(11,.m 6 30)] [17,20,21,22,23,24,25,26,27,28,29,30]) (.q [.m 31 6,.o 32 (.n .neq 31 (.k 0))] [31] (.cond 32 (.q [.m 33 6,.m 4 33] [0,1,5,6,32,33] .ret) .skip))) (.seq (.dreg [(0,.m 34 0),(1,.m 35 5),(2,.o 36 (.ia 2 34 35)),(3,.o 37 (.fa 0 36)),(4,.o 38 (.ld 1 false 37)),(5,.m 39 1),(6,.m 40 5),(7,.o 41 (.ia 2 39 40)),(8,.o 42 (.fa 0 41)),(9,.o 43 (.ld 1 false 42)),(10,.o 44 (.call 163 true [38,43])),(11,.m 7 44)] [6,32,34,35,36,37,38,39,40,41,42,43,44]) (.q [.m 45 7,.o 46 (.n .neq 45 (.k 0))] [45] (.cond 46 (.q [.m 47 7,.m 4 47] [0,1,5,7,46,47] .ret) .skip))))) (.reg [.m 18 5,.o 19 (.n .add 18 (.k 1)),.m 5 19] [7,18,19,46]))
def c171_r0:C:=
 .q [.m 48 0,.o 49 (.len false 48),.m 50 1,.o 51 (.len false 50),.o 52 (.call 163 true [49,51]),.m 4 52] [0,1,5,17,48,49,50,51,52] .ret
def c171:C:=
 (.q [.m 4 (.k 0)] [4] (.seq (.q [.m 5 (.k 0)] [] (.blk 0 (.loop [] c171_0))) c171_r0))
def d171:Fn:={ real:=171,np:=2,nt:=53,res:=[.t 4],body:=c171 }
def c172:C:=
 (.q [.o 2 (.box 3 true 0),.o 3 (.box 3 true 1),.m 4 (.k 0)] [0,1,4] (.seq (.q [.o 5 (.fa 0 2),.o 6 (.ld 1 false 5),.o 7 (.fa 0 3),.o 8 (.ld 1 false 7),.o 9 (.n .neq 6 8)] [5,6,7,8] (.cond 9 (.q [.o 10 (.fa 0 2),.o 11 (.ld 1 false 10),.o 12 (.fa 0 3),.o 13 (.ld 1 false 12),.o 14 (.n .lss 11 13),.o 15 (.call 197 true [14]),.m 4 15] [2,3,9,10,11,12,13,14,15] .ret) .skip)) (.seq (.q [.o 16 (.fa 1 2),.o 17 (.ld 1 false 16),.o 18 (.fa 1 3),.o 19 (.ld 1 false 18),.o 20 (.n .neq 17 19)] [9,16,17,18,19] (.cond 20 (.q [.o 21 (.fa 1 2),.o 22 (.ld 1 false 21),.o 23 (.fa 1 3),.o 24 (.ld 1 false 23),.o 25 (.n .lss 22 24),.o 26 (.call 197 true [25]),.m 4 26] [2,3,20,21,22,23,24,25,26] .ret) .skip)) (.seq (.q [.o 27 (.fa 2 2),.o 28 (.ld 1 false 27),.o 29 (.fa 2 3),.o 30 (.ld 1 false 29),.o 31 (.bin .neq .str 28 30)] [20,27,28,29,30] (.cond 31 (.q [.o 32 (.fa 2 2),.o 33 (.ld 1 false 32),.o 34 (.fa 2 3),.o 35 (.ld 1 false 34),.o 36 (.bin .lss .str 33 35),.o 37 (.call 197 true [36]),.m 4 37] [2,3,31,32,33,34,35,36,37] .ret) .skip)) (.q [.m 4 (.k 0)] [2,3,31] .ret)))))
def d172:Fn:={ real:=172,np:=2,nt:=38,res:=[.t 4],body:=c172 }
def c173:C:=
 (.q [.m 3 (.c (.i .u32 0))] [3] (.seq (.q [.m 4 0,.o 5 (.ld 1 false 1),.o 6 (.len false 5),.o 7 (.n .geq 4 6)] [4,5,6] (.cond 7 (.q [.m 3 (.c (.i .u32 0))] [0,1,7] .ret) .skip)) (.q [.o 8 (.ld 1 false 1),.m 9 0,.o 10 (.ia 1 8 9),.o 11 (.ld 1 false 10),.m 3 11] [0,1,7,8,9,10,11] .ret)))
def d173:Fn:={ real:=173,np:=2,nt:=12,res:=[.t 3],body:=c173 }
end Go.Proofs.YtjlmeikcfdanmaaGreatDoor.DE

namespace Go.Proofs.YtjlmeikcfdanmaaGreatDoor.DE
def c174_0:C:=
 .blk 1 (.q [.m 21 2,.m 22 1,.o 23 (.n .sub 21 22),.m 12 23] [21,22,23] (.seq (.q [.m 24 12,.o 25 (.n .leq 24 (.k 12))] [24] (.cond 25 (.q [.m 26 0,.m 27 1,.m 28 2,.m 29 4,.o 30 (.call 198 false [26,27,28,29])] [0,1,2,3,4,10,11,12,25,26,27,28,29,30] .ret) .skip)) (.seq (.q [.m 31 3,.o 32 (.n .eql 31 (.k 0))] [25,31] (.cond 32 (.q [.m 33 0,.m 34 1,.m 35 2,.m 36 4,.o 37 (.call 199 false [33,34,35,36])] [0,1,2,3,4,10,11,12,32,33,34,35,36,37] .ret) .skip)) (.seq (.q [.m 38 10,.o 39 (.un .not 38)] [32,38] (.cond 39 (.q [.m 40 0,.m 41 1,.m 42 2,.m 43 4,.o 44 (.call 200 false [40,41,42,43])] [39,40,41,42,43,44] (.reg [.m 45 3,.o 46 (.n .sub 45 (.k 1)),.m 3 46] [45,46])) .skip)) (.q [.m 48 0,.m 49 1,.m 50 2,.m 51 4,.o 52 (.call 201 false [48,49,50,51]),.m 47 52,.o 53 (.ext 47 0),.o 54 (.ext 47 1),.m 13 53,.m 14 54] [39,47,48,49,50,51,52,53,54] (.seq (.q [.m 55 14,.o 56 (.n .eql 55 (.k 2))] [55] (.cond 56 (.q [.m 57 0,.m 58 1,.m 59 2,.m 60 4,.o 61 (.call 202 false [57,58,59,60])] [14,56,57,58,59,60,61] (.q [.m 62 2,.o 63 (.n .sub 62 (.k 1)),.m 64 13,.m 65 1,.o 66 (.n .sub 64 65),.o 67 (.n .sub 63 66),.m 13 67] [62,63,64,65,66,67] (.reg [.m 14 (.k 1)] []))) .skip)) (.seq (.q [.m 68 10,.m 69 68,.g 70 69 (.mv 11),.o 71 (.pick 69 70 (.c (.b false))),.m 72 71,.g 73 72 (.mv 14),.g 74 72 (.n .eql 73 (.k 1)),.o 75 (.pick 72 74 (.c (.b false)))] [14,56,68,69,70,71,72,73,74] (.cond 75 (.q [.m 76 0,.m 77 1,.m 78 2,.m 79 4,.o 80 (.call 203 false [76,77,78,79])] [75,76,77,78,79] (.cond 80 .ret .skip)) .skip)) (.seq (.seq (.dreg [(0,.m 81 1),(1,.o 82 (.n .gtr 81 (.k 0))),(2,.m 83 82),(3,.g 84 83 (.mv 4)),(4,.g 85 83 (.mv 0)),(5,.g 86 83 (.mv 1)),(6,.g 87 83 (.n .sub 86 (.k 1))),(7,.g 88 83 (.ia 2 85 87)),(8,.g 89 83 (.ld 2 true 88)),(9,.g 90 83 (.mv 0)),(10,.g 91 83 (.mv 13)),(11,.g 92 83 (.ia 2 90 91)),(12,.g 93 83 (.ld 2 true 92)),(13,.g 94 83 (.calld 84 true [89,93])),(14,.g 95 83 (.n .lss 94 (.k 0))),(15,.g 96 83 (.un .not 95)),(16,.o 97 (.pick 83 96 (.c (.b false))))] [75,80,81,82,83,84,85,86,87,88,89,90,91,92,93,94,95,96]) (.cond 97 (.q [.m 98 0,.m 99 1,.m 100 2,.m 101 13,.m 102 4,.o 103 (.call 204 false [98,99,100,101,102]),.m 15 103] [1,12,13,97,98,99,100,101,102,103] (.q [.m 104 15,.m 1 104] [15,104] (.exit 1))) .skip)) (.q [.m 106 0,.m 107 1,.m 108 2,.m 109 13,.m 110 4,.o 111 (.call 205 false [106,107,108,109,110]),.m 105 111,.o 112 (.ext 105 0),.o 113 (.ext 105 1),.m 16 112,.m 17 113] [10,11,13,97,105,106,107,108,109,110,111,112,113] (.q [.m 114 17,.m 11 114] [17,114] (.q [.m 115 16,.m 116 1,.o 117 (.n .sub 115 116),.m 118 2,.m 119 16,.o 120 (.n .sub 118 119),.m 18 117,.m 19 120] [115,116,117,118,119,120] (.q [.m 121 12,.o 122 (.n .quo 121 (.k 8)),.m 20 122] [12,121,122] (.q [.m 123 18,.m 124 19,.o 125 (.n .lss 123 124)] [123,124] (.cond 125 (.q [.m 126 18,.m 127 20,.o 128 (.n .geq 126 127),.m 10 128] [18,19,20,125,126,127,128] (.q [.m 129 0,.m 130 1,.m 131 16,.m 132 3,.m 133 4,.o 134 (.call 174 false [129,130,131,132,133])] [1,129,130,131,132,133,134] (.reg [.m 135 16,.o 136 (.n .add 135 (.k 1)),.m 1 136] [16,135,136]))) (.q [.m 137 19,.m 138 20,.o 139 (.n .geq 137 138),.m 10 139] [18,19,20,125,137,138,139] (.q [.m 140 0,.m 141 16,.o 142 (.n .add 141 (.k 1)),.m 143 2,.m 144 3,.m 145 4,.o 146 (.call 174 false [140,142,143,144,145])] [2,140,141,142,143,144,145,146] (.reg [.m 147 16,.m 2 147] [16,147])))))))))))))))))
def c174:C:=
 (.q [.m 10 (.c (.b true))] [] (.q [.m 11 (.c (.b true))] [] (.blk 0 (.loop [] c174_0))))
def d174:Fn:={ real:=174,np:=5,nt:=148,res:=[],body:=c174 }
def c175:C:=
 (.q [.m 2 (.k 0)] [2] (.seq (.cond (.c (.b false)) (.q [.m 3 0,.o 4 (.conv .u32 3),.o 5 (.call 206 true [4]),.m 2 5] [0,3,4,5] .ret) .skip) (.q [.m 6 0,.o 7 (.call 207 true [6]),.m 2 7] [0,6,7] .ret)))
def d175:Fn:={ real:=175,np:=1,nt:=8,res:=[.t 2],body:=c175 }
def c176:C:=
 (.q [.m 2 (.c (.s []))] [2] (.seq (.q [.m 3 0,.o 4 (.n .lss 3 (.k 10))] [3] (.cond 4 (.q [.m 5 0,.m 6 0,.o 7 (.n .add 6 (.k 1)),.o 8 (.slcs (.c (.s [48,49,50,51,52,53,54,55,56,57,97,98,99,100,101,102,103,104,105,106,107,108,109,110,111,112,113,114,115,116,117,118,119,120,121,122])) (some 5) (some 7)),.m 2 8] [0,4,5,6,7,8] .ret) .skip)) (.q [.m 9 0,.o 10 (.n .mul 9 (.k 2)),.m 11 0,.o 12 (.n .mul 11 (.k 2)),.o 13 (.n .add 12 (.k 2)),.o 14 (.slcs (.c (.s [48,48,48,49,48,50,48,51,48,52,48,53,48,54,48,55,48,56,48,57,49,48,49,49,49,50,49,51,49,52,49,53,49,54,49,55,49,56,49,57,50,48,50,49,50,50,50,51,50,52,50,53,50,54,50,55,50,56,50,57,51,48,51,49,51,50,51,51,51,52,51,53,51,54,51,55,51,56,51,57,52,48,52,49,52,50,52,51,52,52,52,53,52,54,52,55,52,56,52,57,53,48,53,49,53,50,53,51,53,52,53,53,53,54,53,55,53,56,53,57,54,48,54,49,54,50,54,51,54,52,54,53,54,54,54,55,54,56,54,57,55,48,55,49,55,50,55,51,55,52,55,53,55,54,55,55,55,56,55,57,56,48,56,49,56,50,56,51,56,52,56,53,56,54,56,55,56,56,56,57,57,48,57,49,57,50,57,51,57,52,57,53,57,54,57,55,57,56,57,57])) (some 10) (some 13)),.m 2 14] [0,4,9,10,11,12,13,14] .ret)))
def d176:Fn:={ real:=176,np:=1,nt:=15,res:=[.t 2],body:=c176 }
def c177:C:=
 (.bad)
def d177:Fn:={ real:=177,np:=1,nt:=15,res:=[.t 2],body:=c177 }
def c179:C:=
 (.bad)
def d179:Fn:={ real:=179,np:=5,nt:=102,res:=[.t 10,.t 11],body:=c179 }
def c185_0:C:=
 .q [.o 9 (.n .lss 8 7)] [] (.seq (.cond 9 .skip (.exit 0)) (.seq (.blk 1 (.q [.m 10 8,.m 5 10] [9,10] (.q [.m 11 1,.m 12 0,.m 13 5,.o 14 (.ia 2 12 13),.o 15 (.ld 2 true 14),.o 16 (.calld 11 true [15])] [11,12,13,14,15] (.cond 16 (.q [.m 17 5,.m 4 17] [0,1,5,7,8,16,17] .ret) .skip)))) (.reg [.o 18 (.n .add 8 (.k 1)),.m 8 18] [5,16,18])))
def c185_r0:C:=
 .q [.o 4 (.mv (.k (-1)))] [0,1,7,8,9] .ret
def c185:C:=
 (.q [.m 4 (.k 0)] [4] (.seq (.q [.m 6 0,.o 7 (.len false 6),.m 8 (.k 0)] [6] (.blk 0 (.loop [] c185_0))) c185_r0))
def d185:Fn:={ real:=185,np:=2,nt:=19,res:=[.t 4],body:=c185 }
def c186_0:C:=
 .q [.o 9 (.n .lss 8 7)] [] (.seq (.cond 9 .skip (.exit 0)) (.seq (.blk 1 (.q [.m 10 8,.m 5 10] [9,10] (.q [.m 11 1,.m 12 0,.m 13 5,.o 14 (.ia 11 12 13),.o 15 (.ld 11 true 14),.o 16 (.calld 11 true [15])] [11,12,13,14,15] (.cond 16 (.q [.m 17 5,.m 4 17] [0,1,5,7,8,16,17] .ret) .skip)))) (.reg [.o 18 (.n .add 8 (.k 1)),.m 8 18] [5,16,18])))
def c186_r0:C:=
 .q [.o 4 (.mv (.k (-1)))] [0,1,7,8,9] .ret
def c186:C:=
 (.q [.m 4 (.k 0)] [4] (.seq (.q [.m 6 0,.o 7 (.len false 6),.m 8 (.k 0)] [6] (.blk 0 (.loop [] c186_0))) c186_r0))
def d186:Fn:={ real:=186,np:=2,nt:=19,res:=[.t 4],body:=c186 }
def c187:C:=
 (.q [.m 2 (.c (.b false))] [2] (.q [.m 3 0,.m 4 0,.o 5 (.n .neq 3 4),.m 2 5] [0,3,4,5] .ret))
def d187:Fn:={ real:=187,np:=1,nt:=6,res:=[.t 2],body:=c187 }
def c188_0:C:=
 .q [.o 14 (.n .lss 13 12)] [] (.seq (.cond 14 .skip (.exit 0)) (.seq (.blk 1 (.q [.m 15 13,.o 16 (.ia 2 11 13),.o 17 (.ld 2 true 16),.o 8 (.alloc [.i .i64 0,.sl 11 true [] .ro]),.m 7 15,.e (.st 2 true 8 17)] [14,15,16,17] (.seq (.q [.m 18 7,.m 19 1,.o 20 (.len false 19),.o 21 (.n .geq 18 20)] [18,19,20] (.cond 21 (.q [.m 6 (.k 1)] [0,1,2,7,8,11,12,13,21] .ret) .skip)) (.q [.m 22 1,.m 23 7,.o 24 (.ia 2 22 23),.o 25 (.ld 2 true 24),.o 9 (.alloc [.i .i64 0,.sl 11 true [] .ro]),.e (.st 2 true 9 25)] [7,21,22,23,24,25] (.q [.m 26 2,.o 27 (.ld 2 true 8),.o 28 (.ld 2 true 9),.o 29 (.calld 26 true [27,28]),.m 10 29] [8,9,26,27,28,29] (.q [.m 30 10,.o 31 (.n .neq 30 (.k 0))] [30] (.cond 31 (.q [.m 32 10,.m 6 32] [0,1,2,10,11,12,13,31,32] .ret) .skip))))))) (.reg [.o 33 (.n .add 13 (.k 1)),.m 13 33] [10,31,33])))
def c188_r0:C:=
 .seq (.q [.m 34 0,.o 35 (.len false 34),.m 36 1,.o 37 (.len false 36),.o 38 (.n .lss 35 37)] [0,1,2,11,12,13,14,34,35,36,37] (.cond 38 (.q [.o 6 (.mv (.k (-1)))] [38] .ret) .skip)) (.q [.m 6 (.k 0)] [38] .ret)
def c188:C:=
 (.q [.m 6 (.k 0)] [6] (.seq (.q [.m 11 0,.o 12 (.len false 11),.m 13 (.k 0)] [] (.blk 0 (.loop [] c188_0))) c188_r0))
def d188:Fn:={ real:=188,np:=3,nt:=39,res:=[.t 6],body:=c188 }
def c189:C:=
 (.q [.o 2 (.box 2 true 0),.o 3 (.box 2 true 1),.m 4 (.k 0)] [0,1,4] (.seq (.dreg [(0,.o 5 (.ld 2 true 2)),(1,.o 6 (.ld 2 true 3)),(2,.o 7 (.call 97 true [5,6])),(3,.o 8 (.fa 0 2)),(4,.o 9 (.ld 1 false 8)),(5,.o 10 (.fa 0 3)),(6,.o 11 (.ld 1 false 10)),(7,.o 12 (.call 190 true [9,11])),(8,.o 13 (.bsl 1 false false [7,12])),(9,.o 14 (.call 143 true [13])),(10,.m 4 14)] [2,3,5,6,7,8,9,10,11,12,13,14]) .ret))
def d189:Fn:={ real:=189,np:=2,nt:=15,res:=[.t 4],body:=c189 }
def c190:C:=
 (.q [.m 4 (.k 0)] [4] (.q [.m 7 0,.o 8 (.call 214 true [7]),.m 5 8] [7,8] (.q [.m 9 1,.o 10 (.call 214 true [9]),.m 6 10] [9,10] (.seq (.q [.m 11 5] [5] (.cond 11 (.seq (.q [.m 12 6] [0,1,6,11] (.cond 12 (.q [.m 4 (.k 0)] [12] .ret) .skip)) (.q [.o 4 (.mv (.k (-1)))] [12] .ret)) .skip)) (.seq (.q [.m 13 6] [6,11] (.cond 13 (.q [.m 4 (.k 1)] [0,1,13] .ret) .skip)) (.seq (.q [.m 14 0,.m 15 1,.o 16 (.n .lss 14 15)] [13,14,15] (.cond 16 (.q [.o 4 (.mv (.k (-1)))] [0,1,16] .ret) .skip)) (.seq (.q [.m 17 0,.m 18 1,.o 19 (.n .gtr 17 18)] [0,1,16,17,18] (.cond 19 (.q [.m 4 (.k 1)] [19] .ret) .skip)) (.q [.m 4 (.k 0)] [19] .ret))))))))
def d190:Fn:={ real:=190,np:=2,nt:=20,res:=[.t 4],body:=c190 }
def c191:C:=
 (.q [.m 4 (.k 0)] [4] (.q [.m 5 0,.m 6 1,.o 7 (.call 215 true [5,6]),.m 4 7] [0,1,5,6,7] .ret))
def d191:Fn:={ real:=191,np:=2,nt:=8,res:=[.t 4],body:=c191 }
def c192:C:=
 (.q [.o 1 (.box 2 true 0),.m 2 (.c (.b false))] [0,2] (.q [.o 3 (.fa 1 1),.o 4 (.ld 1 false 3),.o 5 (.len false 4),.o 6 (.n .eql 5 (.k 0)),.m 2 6] [1,3,4,5,6] .ret))
def d192:Fn:={ real:=192,np:=1,nt:=7,res:=[.t 2],body:=c192 }
def c193_0:C:=
 .q [.o 9 (.n .lss 8 7)] [] (.seq (.cond 9 .skip (.exit 0)) (.seq (.blk 1 (.q [.m 10 8,.m 5 10] [9,10] (.q [.m 11 1,.m 12 0,.m 13 5,.o 14 (.ia 4 12 13),.o 15 (.ld 4 true 14),.o 16 (.calld 11 true [15])] [11,12,13,14,15] (.cond 16 (.q [.m 17 5,.m 4 17] [0,1,5,7,8,16,17] .ret) .skip)))) (.reg [.o 18 (.n .add 8 (.k 1)),.m 8 18] [5,16,18])))
def c193_r0:C:=
 .q [.o 4 (.mv (.k (-1)))] [0,1,7,8,9] .ret
def c193:C:=
 (.q [.m 4 (.k 0)] [4] (.seq (.q [.m 6 0,.o 7 (.len false 6),.m 8 (.k 0)] [6] (.blk 0 (.loop [] c193_0))) c193_r0))
def d193:Fn:={ real:=193,np:=2,nt:=19,res:=[.t 4],body:=c193 }
def c194:C:=
 (.q [.o 1 (.box 3 true 0),.m 2 (.c (.b false))] [0,2] (.seq (.q [.o 3 (.fa 0 1),.o 4 (.ld 1 false 3)] [3] (.blk 0 (.q [.o 6 (.n .eql 4 (.k 0)),.m 5 6] [6] (.cond 5 (.q [.o 7 (.fa 2 1),.o 8 (.ld 1 false 7),.o 9 (.bin .eql .str 8 (.c (.s []))),.m 2 9] [1,4,5,7,8,9] .ret) (.q [.o 11 (.n .eql 4 (.k 1)),.m 10 11] [5,11] (.cond 10 (.q [.o 12 (.fa 1 1),.o 13 (.ld 1 false 12),.o 14 (.n .eql 13 (.k 0)),.m 15 14,.g 16 15 (.fa 2 1),.g 17 15 (.ld 1 false 16),.g 18 15 (.len true 17),.g 19 15 (.n .leq 18 (.k 255)),.o 20 (.pick 15 19 (.c (.b false))),.m 2 20] [1,4,10,12,13,14,15,16,17,18,19,20] .ret) (.q [.o 22 (.n .eql 4 (.k 2)),.m 21 22] [4,10,22] (.cond 21 (.q [.o 23 (.fa 1 1),.o 24 (.ld 1 false 23),.o 25 (.n .eql 24 (.k 0)),.m 26 25,.h 27 26 (.fa 1 1),.h 28 26 (.ld 1 false 27),.h 29 26 (.n .eql 28 (.k 1)),.o 30 (.pick 26 (.c (.b true)) 29),.m 31 30,.g 32 31 (.fa 2 1),.g 33 31 (.ld 1 false 32),.g 34 31 (.bin .eql .str 33 (.c (.s []))),.o 35 (.pick 31 34 (.c (.b false))),.m 2 35] [1,21,23,24,25,26,27,28,29,30,31,32,33,34,35] .ret) .skip)))))))) (.q [.m 2 (.c (.b false))] [1,21] .ret)))
def d194:Fn:={ real:=194,np:=1,nt:=36,res:=[.t 2],body:=c194 }
def c195:C:=
 (.q [.o 3 (.box 4 true 0),.m 4 (.c (.b false))] [0,4] (.q [.o 5 (.fa 0 3),.o 6 (.ld 3 true 5),.o 7 (.call 194 true [6]),.o 8 (.un .not 7),.m 9 8,.h 10 9 (.fa 0 3),.h 11 9 (.fa 0 10),.h 12 9 (.ld 1 false 11),.h 13 9 (.fa 0 1),.h 14 9 (.ld 1 false 13),.h 15 9 (.n .neq 12 14),.o 16 (.pick 9 (.c (.b true)) 15),.m 17 16,.h 18 17 (.ld 1 false 2),.h 19 17 (.n .eql 18 (.k 0)),.h 20 17 (.mv 19),.g 21 20 (.fa 0 3),.g 22 20 (.fa 1 21),.g 23 20 (.ld 1 false 22),.g 24 20 (.n .neq 23 (.k 1)),.h 25 17 (.pick 20 24 (.c (.b false))),.o 26 (.pick 17 (.c (.b true)) 25),.m 4 26] [1,2,3,5,6,7,8,9,10,11,12,13,14,15,16,17,18,19,20,21,22,23,24,25,26] .ret))
def d195:Fn:={ real:=195,np:=3,nt:=27,res:=[.t 4],body:=c195 }
def c196:C:=
 (.q [.o 1 (.box 3 true 0),.m 2 (.c (.b false))] [0,2] (.seq (.q [.o 3 (.fa 0 1),.o 4 (.ld 1 false 3)] [3] (.blk 0 (.q [.o 6 (.n .eql 4 (.k 0)),.m 5 6] [6] (.cond 5 (.q [.o 7 (.fa 2 1),.o 8 (.ld 1 false 7),.o 9 (.bin .eql .str 8 (.c (.s []))),.m 2 9] [1,4,5,7,8,9] .ret) (.q [.o 11 (.n .eql 4 (.k 1)),.m 10 11] [5,11] (.cond 10 (.q [.o 12 (.fa 1 1),.o 13 (.ld 1 false 12),.o 14 (.n .eql 13 (.k 0)),.m 15 14,.g 16 15 (.fa 2 1),.g 17 15 (.ld 1 false 16),.g 18 15 (.len true 17),.g 19 15 (.n .leq 18 (.k 255)),.o 20 (.pick 15 19 (.c (.b false))),.m 2 20] [1,4,10,12,13,14,15,16,17,18,19,20] .ret) (.q [.o 22 (.n .eql 4 (.k 2)),.m 21 22] [4,10,22] (.cond 21 (.q [.o 23 (.fa 2 1),.o 24 (.ld 1 false 23),.o 25 (.bin .eql .str 24 (.c (.s []))),.m 26 25,.g 27 26 (.fa 1 1),.g 28 26 (.ld 1 false 27),.g 29 26 (.n .eql 28 (.k 0)),.g 30 26 (.mv 29),.h 31 30 (.fa 1 1),.h 32 30 (.ld 1 false 31),.h 33 30 (.n .eql 32 (.k 1)),.g 34 26 (.pick 30 (.c (.b true)) 33),.o 35 (.pick 26 34 (.c (.b false))),.m 2 35] [1,21,23,24,25,26,27,28,29,30,31,32,33,34,35] .ret) .skip)))))))) (.q [.m 2 (.c (.b false))] [1,21] .ret)))
def d196:Fn:={ real:=196,np:=1,nt:=36,res:=[.t 2],body:=c196 }
def c197:C:=
 (.q [.m 2 (.k 0)] [2] (.seq (.q [.m 3 0] [0] (.cond 3 (.q [.o 2 (.mv (.k (-1)))] [3] .ret) .skip)) (.q [.m 2 (.k 1)] [3] .ret)))
def d197:Fn:={ real:=197,np:=1,nt:=4,res:=[.t 2],body:=c197 }
def c198_0:C:=
 .seq (.seq (.dreg [(0,.m 18 9),(1,.m 19 1),(2,.o 20 (.n .gtr 18 19)),(3,.m 21 20),(4,.g 22 21 (.mv 3)),(5,.g 23 21 (.mv 0)),(6,.g 24 21 (.mv 9)),(7,.g 25 21 (.ia 2 23 24)),(8,.g 26 21 (.ld 2 true 25)),(9,.g 27 21 (.mv 0)),(10,.g 28 21 (.mv 9)),(11,.g 29 21 (.n .sub 28 (.k 1))),(12,.g 30 21 (.ia 2 27 29)),(13,.g 31 21 (.ld 2 true 30)),(14,.g 32 21 (.calld 22 true [26,31])),(15,.g 33 21 (.n .lss 32 (.k 0))),(16,.o 34 (.pick 21 33 (.c (.b false))))] [18,19,20,21,22,23,24,25,26,27,28,29,30,31,32,33]) (.cond 34 .skip (.exit 2))) (.seq (.blk 3 (.dreg [(0,.m 37 0),(1,.m 38 9),(2,.m 39 0),(3,.m 40 9),(4,.o 41 (.n .sub 40 (.k 1))),(5,.m 42 0),(6,.m 43 9),(7,.o 44 (.n .sub 43 (.k 1))),(8,.o 45 (.ia 2 42 44)),(9,.o 46 (.ld 2 true 45)),(10,.m 47 0),(11,.m 48 9),(12,.o 49 (.ia 2 47 48)),(13,.o 50 (.ld 2 true 49)),(14,.o 51 (.ia 2 37 38)),(15,.e (.st 2 true 51 46)),(16,.o 52 (.ia 2 39 41)),(17,.e (.st 2 true 52 50))] [34,37,38,39,40,41,42,43,44,45,46,47,48,49,50,51,52])) (.reg [.m 35 9,.o 36 (.n .sub 35 (.k 1)),.m 9 36] [35,36]))
def c198_r0:C:=
 .reg [.m 15 8,.o 16 (.n .add 15 (.k 1)),.m 8 16] [9,15,16,34]
def c198_1:C:=
 .seq (.q [.m 12 8,.m 13 2,.o 14 (.n .lss 12 13)] [12,13] (.cond 14 .skip (.exit 0))) (.seq (.blk 1 (.q [.m 17 8,.m 9 17] [14,17] (.blk 2 (.loop [] c198_0)))) c198_r0)
def c198:C:=
 (.q [.m 10 1,.o 11 (.n .add 10 (.k 1)),.m 8 11] [10,11] (.blk 0 (.loop [] c198_1)))
def d198:Fn:={ real:=198,np:=4,nt:=53,res:=[],body:=c198 }
def c199_0:C:=
 .seq (.q [.m 32 12,.o 33 (.n .geq 32 (.k 0))] [32] (.cond 33 .skip (.exit 2))) (.seq (.blk 3 (.seq (.dreg [(0,.m 36 0),(1,.m 37 8),(2,.m 38 0),(3,.m 39 8),(4,.m 40 12),(5,.o 41 (.n .add 39 40)),(6,.m 42 0),(7,.m 43 8),(8,.m 44 12),(9,.o 45 (.n .add 43 44)),(10,.o 46 (.ia 2 42 45)),(11,.o 47 (.ld 2 true 46)),(12,.m 48 0),(13,.m 49 8),(14,.o 50 (.ia 2 48 49)),(15,.o 51 (.ld 2 true 50)),(16,.o 52 (.ia 2 36 37)),(17,.e (.st 2 true 52 47)),(18,.o 53 (.ia 2 38 41)),(19,.e (.st 2 true 53 51))] [33,36,37,38,39,40,41,42,43,44,45,46,47,48,49,50,51,52,53]) (.reg [.m 54 0,.m 55 9,.m 56 12,.m 57 8,.m 58 3,.o 59 (.call 216 false [54,55,56,57,58])] [54,55,56,57,58,59]))) (.reg [.m 34 12,.o 35 (.n .sub 34 (.k 1)),.m 12 35] [34,35]))
def c199_1:C:=
 .seq (.q [.m 20 11,.o 21 (.n .geq 20 (.k 0))] [20] (.cond 21 .skip (.exit 0))) (.seq (.blk 1 (.reg [.m 24 0,.m 25 11,.m 26 10,.m 27 8,.m 28 3,.o 29 (.call 216 false [24,25,26,27,28])] [21,24,25,26,27,28,29])) (.reg [.m 22 11,.o 23 (.n .sub 22 (.k 1)),.m 11 23] [22,23]))
def c199_r0:C:=
 .q [.m 30 10,.o 31 (.n .sub 30 (.k 1)),.m 12 31] [10,11,21,30,31] (.blk 2 (.loop [] c199_0))
def c199:C:=
 (.q [.m 13 1,.m 8 13] [13] (.q [.m 9 (.k 0)] [] (.q [.m 14 2,.m 15 1,.o 16 (.n .sub 14 15),.m 10 16] [1,2,14,15,16] (.seq (.q [.m 17 10,.o 18 (.n .sub 17 (.k 1)),.o 19 (.n .quo 18 (.k 2)),.m 11 19] [17,18,19] (.blk 0 (.loop [] c199_1))) c199_r0))))
def d199:Fn:={ real:=199,np:=4,nt:=60,res:=[],body:=c199 }
def c200_0:C:=
 .seq (.q [.m 28 11,.m 29 1,.m 30 8,.o 31 (.n .quo 30 (.k 4)),.o 32 (.n .mul 31 (.k 2)),.o 33 (.n .add 29 32),.o 34 (.n .add 33 (.k 1)),.o 35 (.n .leq 28 34)] [28,29,30,31,32,33,34] (.cond 35 .skip (.exit 0))) (.seq (.blk 1 (.q [.o 38 (.call 218 false [9]),.m 39 10,.o 40 (.n .sub 39 (.c (.i .u64 1))),.o 41 (.n .and 38 40),.o 42 (.conv .i64 41),.m 12 42] [35,38,39,40,41,42] (.seq (.q [.m 43 12,.m 44 8,.o 45 (.n .geq 43 44)] [43,44] (.cond 45 (.reg [.m 46 12,.m 47 8,.o 48 (.n .sub 46 47),.m 12 48] [45,46,47,48]) .skip)) (.dreg [(0,.m 49 0),(1,.m 50 11),(2,.m 51 0),(3,.m 52 1),(4,.m 53 12),(5,.o 54 (.n .add 52 53)),(6,.m 55 0),(7,.m 56 1),(8,.m 57 12),(9,.o 58 (.n .add 56 57)),(10,.o 59 (.ia 2 55 58)),(11,.o 60 (.ld 2 true 59)),(12,.m 61 0),(13,.m 62 11),(14,.o 63 (.ia 2 61 62)),(15,.o 64 (.ld 2 true 63)),(16,.o 65 (.ia 2 49 50)),(17,.e (.st 2 true 65 60)),(18,.o 66 (.ia 2 51 54)),(19,.e (.st 2 true 66 64))] [12,45,49,50,51,52,53,54,55,56,57,58,59,60,61,62,63,64,65,66])))) (.reg [.m 36 11,.o 37 (.n .add 36 (.k 1)),.m 11 37] [36,37]))
def c200:C:=
 (.q [.m 13 2,.m 14 1,.o 15 (.n .sub 13 14),.m 8 15] [2,3,13,14,15] (.q [.m 16 8,.o 17 (.n .geq 16 (.k 8))] [16] (.cond 17 (.q [.m 18 8,.o 19 (.conv .u64 18),.o 9 (.alloc [.i .u64 0]),.e (.st 1 false 9 19)] [17,18,19] (.q [.m 20 8,.o 21 (.call 217 true [20]),.m 10 21] [20,21] (.q [.m 22 1,.m 23 8,.o 24 (.n .quo 23 (.k 4)),.o 25 (.n .mul 24 (.k 2)),.o 26 (.n .add 22 25),.o 27 (.n .sub 26 (.k 1)),.m 11 27] [22,23,24,25,26,27] (.blk 0 (.loop [] c200_0))))) .skip)))
def d200:Fn:={ real:=200,np:=4,nt:=67,res:=[],body:=c200 }
def c201:C:=
 (.q [.m 8 (.k 0),.m 9 (.k 0)] [8,9] (.q [.m 15 2,.m 16 1,.o 17 (.n .sub 15 16),.m 10 17] [2,15,16,17] (.q [.o 11 (.alloc [.i .i64 0])] [] (.q [.m 18 1,.m 19 10,.o 20 (.n .quo 19 (.k 4)),.o 21 (.n .mul 20 (.k 1)),.o 22 (.n .add 18 21),.m 12 22] [18,19,20,21,22] (.q [.m 23 1,.m 24 10,.o 25 (.n .quo 24 (.k 4)),.o 26 (.n .mul 25 (.k 2)),.o 27 (.n .add 23 26),.m 13 27] [23,24,25,26,27] (.q [.m 28 1,.m 29 10,.o 30 (.n .quo 29 (.k 4)),.o 31 (.n .mul 30 (.k 3)),.o 32 (.n .add 28 31),.m 14 32] [1,28,29,30,31,32] (.seq (.q [.m 33 10,.o 34 (.n .geq 33 (.k 8))] [33] (.cond 34 (.seq (.q [.m 35 10,.o 36 (.n .geq 35 (.k 50))] [10,34,35] (.cond 36 (.q [.m 37 0,.m 38 12,.m 39 3,.o 40 (.call 219 false [37,38,11,39]),.m 12 40] [36,37,38,39,40] (.q [.m 41 0,.m 42 13,.m 43 3,.o 44 (.call 219 false [41,42,11,43]),.m 13 44] [41,42,43,44] (.reg [.m 45 0,.m 46 14,.m 47 3,.o 48 (.call 219 false [45,46,11,47]),.m 14 48] [45,46,47,48]))) .skip)) (.reg [.m 49 0,.m 50 12,.m 51 13,.m 52 14,.m 53 3,.o 54 (.call 220 false [49,50,51,52,11,53]),.m 13 54] [0,3,12,14,36,49,50,51,52,53,54])) .skip)) (.q [.o 55 (.ld 1 false 11)] [0,3,10,11,12,14,34] (.blk 0 (.q [.o 58 (.n .eql 55 (.k 0)),.m 57 58] [58] (.cond 57 (.q [.m 59 13,.m 8 59,.m 9 (.k 1)] [13,55,57,59] .ret) (.q [.o 61 (.n .eql 55 (.k 12)),.m 60 61] [55,57,61] (.cond 60 (.q [.m 62 13,.m 8 62,.m 9 (.k 2)] [13,60,62] .ret) (.q [.m 56 13,.m 8 56,.m 9 (.k 0)] [13,56,60] .ret))))))))))))))
def d201:Fn:={ real:=201,np:=4,nt:=63,res:=[.t 8,.t 9],body:=c201 }
def c202_0:C:=
 .seq (.q [.m 13 8,.m 14 9,.o 15 (.n .lss 13 14)] [13,14] (.cond 15 .skip (.exit 0))) (.blk 1 (.seq (.dreg [(0,.m 16 0),(1,.m 17 8),(2,.m 18 0),(3,.m 19 9),(4,.m 20 0),(5,.m 21 9),(6,.o 22 (.ia 2 20 21)),(7,.o 23 (.ld 2 true 22)),(8,.m 24 0),(9,.m 25 8),(10,.o 26 (.ia 2 24 25)),(11,.o 27 (.ld 2 true 26)),(12,.o 28 (.ia 2 16 17)),(13,.e (.st 2 true 28 23)),(14,.o 29 (.ia 2 18 19)),(15,.e (.st 2 true 29 27))] [15,16,17,18,19,20,21,22,23,24,25,26,27,28,29]) (.q [.m 30 8,.o 31 (.n .add 30 (.k 1)),.m 8 31] [30,31] (.reg [.m 32 9,.o 33 (.n .sub 32 (.k 1)),.m 9 33] [32,33]))))
def c202:C:=
 (.q [.m 10 1,.m 8 10] [1,3,10] (.q [.m 11 2,.o 12 (.n .sub 11 (.k 1)),.m 9 12] [2,11,12] (.blk 0 (.loop [] c202_0))))
def d202:Fn:={ real:=202,np:=4,nt:=34,res:=[],body:=c202 }
def c203_0:C:=
 .seq (.q [.m 107 12,.m 108 2,.o 109 (.n .lss 107 108)] [107,108] (.cond 109 .skip (.exit 6))) (.seq (.blk 7 (.seq (.seq (.dreg [(0,.m 112 3),(1,.m 113 0),(2,.m 114 12),(3,.o 115 (.ia 2 113 114)),(4,.o 116 (.ld 2 true 115)),(5,.m 117 0),(6,.m 118 12),(7,.o 119 (.n .sub 118 (.k 1))),(8,.o 120 (.ia 2 117 119)),(9,.o 121 (.ld 2 true 120)),(10,.o 122 (.calld 112 true [116,121])),(11,.o 123 (.n .lss 122 (.k 0))),(12,.o 124 (.un .not 123))] [109,112,113,114,115,116,117,118,119,120,121,122,123]) (.cond 124 (.exit 6) .skip)) (.dreg [(0,.m 125 0),(1,.m 126 12),(2,.m 127 0),(3,.m 128 12),(4,.o 129 (.n .sub 128 (.k 1))),(5,.m 130 0),(6,.m 131 12),(7,.o 132 (.n .sub 131 (.k 1))),(8,.o 133 (.ia 2 130 132)),(9,.o 134 (.ld 2 true 133)),(10,.m 135 0),(11,.m 136 12),(12,.o 137 (.ia 2 135 136)),(13,.o 138 (.ld 2 true 137)),(14,.o 139 (.ia 2 125 126)),(15,.e (.st 2 true 139 134)),(16,.o 140 (.ia 2 127 129)),(17,.e (.st 2 true 140 138))] [124,125,126,127,128,129,130,131,132,133,134,135,136,137,138,139,140]))) (.reg [.m 110 12,.o 111 (.n .add 110 (.k 1)),.m 12 111] [110,111]))
def c203_1:C:=
 .seq (.q [.m 68 11,.o 69 (.n .geq 68 (.k 1))] [68] (.cond 69 .skip (.exit 4))) (.seq (.blk 5 (.seq (.seq (.dreg [(0,.m 72 3),(1,.m 73 0),(2,.m 74 11),(3,.o 75 (.ia 2 73 74)),(4,.o 76 (.ld 2 true 75)),(5,.m 77 0),(6,.m 78 11),(7,.o 79 (.n .sub 78 (.k 1))),(8,.o 80 (.ia 2 77 79)),(9,.o 81 (.ld 2 true 80)),(10,.o 82 (.calld 72 true [76,81])),(11,.o 83 (.n .lss 82 (.k 0))),(12,.o 84 (.un .not 83))] [69,72,73,74,75,76,77,78,79,80,81,82,83]) (.cond 84 (.exit 4) .skip)) (.dreg [(0,.m 85 0),(1,.m 86 11),(2,.m 87 0),(3,.m 88 11),(4,.o 89 (.n .sub 88 (.k 1))),(5,.m 90 0),(6,.m 91 11),(7,.o 92 (.n .sub 91 (.k 1))),(8,.o 93 (.ia 2 90 92)),(9,.o 94 (.ld 2 true 93)),(10,.m 95 0),(11,.m 96 11),(12,.o 97 (.ia 2 95 96)),(13,.o 98 (.ld 2 true 97)),(14,.o 99 (.ia 2 85 86)),(15,.e (.st 2 true 99 94)),(16,.o 100 (.ia 2 87 89)),(17,.e (.st 2 true 100 98))] [84,85,86,87,88,89,90,91,92,93,94,95,96,97,98,99,100]))) (.reg [.m 70 11,.o 71 (.n .sub 70 (.k 1)),.m 11 71] [70,71]))
def c203_2:C:=
 .seq (.seq (.dreg [(0,.m 19 9),(1,.m 20 2),(2,.o 21 (.n .lss 19 20)),(3,.m 22 21),(4,.g 23 22 (.mv 3)),(5,.g 24 22 (.mv 0)),(6,.g 25 22 (.mv 9)),(7,.g 26 22 (.ia 2 24 25)),(8,.g 27 22 (.ld 2 true 26)),(9,.g 28 22 (.mv 0)),(10,.g 29 22 (.mv 9)),(11,.g 30 22 (.n .sub 29 (.k 1))),(12,.g 31 22 (.ia 2 28 30)),(13,.g 32 22 (.ld 2 true 31)),(14,.g 33 22 (.calld 23 true [27,32])),(15,.g 34 22 (.n .lss 33 (.k 0))),(16,.g 35 22 (.un .not 34)),(17,.o 36 (.pick 22 35 (.c (.b false))))] [19,20,21,22,23,24,25,26,27,28,29,30,31,32,33,34,35]) (.cond 36 .skip (.exit 2))) (.blk 3 (.reg [.m 37 9,.o 38 (.n .add 37 (.k 1)),.m 9 38] [36,37,38]))
def c203_r0:C:=
 .q [.m 101 2,.m 102 9,.o 103 (.n .sub 101 102),.o 104 (.n .geq 103 (.k 2))] [11,65,69,84,101,102,103] (.cond 104 (.q [.m 105 9,.o 106 (.n .add 105 (.k 1)),.m 12 106] [104,105,106] (.blk 6 (.loop [] c203_0))) .skip)
def c203_r1:C:=
 .seq (.q [.m 39 9,.m 40 2,.o 41 (.n .eql 39 40)] [36,39,40] (.cond 41 (.q [.m 8 (.c (.b true))] [0,1,2,3,9,10,41] .ret) .skip)) (.seq (.q [.m 42 2,.m 43 1,.o 44 (.n .sub 42 43),.o 45 (.n .lss 44 (.k 50))] [41,42,43,44] (.cond 45 (.q [.m 8 (.c (.b false))] [0,1,2,3,9,10,45] .ret) .skip)) (.seq (.dreg [(0,.m 46 0),(1,.m 47 9),(2,.m 48 0),(3,.m 49 9),(4,.o 50 (.n .sub 49 (.k 1))),(5,.m 51 0),(6,.m 52 9),(7,.o 53 (.n .sub 52 (.k 1))),(8,.o 54 (.ia 2 51 53)),(9,.o 55 (.ld 2 true 54)),(10,.m 56 0),(11,.m 57 9),(12,.o 58 (.ia 2 56 57)),(13,.o 59 (.ld 2 true 58)),(14,.o 60 (.ia 2 46 47)),(15,.e (.st 2 true 60 55)),(16,.o 61 (.ia 2 48 50)),(17,.e (.st 2 true 61 59))] [45,46,47,48,49,50,51,52,53,54,55,56,57,58,59,60,61]) (.seq (.q [.m 62 9,.m 63 1,.o 64 (.n .sub 62 63),.o 65 (.n .geq 64 (.k 2))] [62,63,64] (.cond 65 (.q [.m 66 9,.o 67 (.n .sub 66 (.k 1)),.m 11 67] [65,66,67] (.blk 4 (.loop [] c203_1))) .skip)) c203_r0)))
def c203_r2:C:=
 .reg [.m 17 10,.o 18 (.n .add 17 (.k 1)),.m 10 18] [12,17,18,104,109,124]
def c203_3:C:=
 .seq (.q [.m 15 10,.o 16 (.n .lss 15 (.k 5))] [15] (.cond 16 .skip (.exit 0))) (.seq (.blk 1 (.seq (.blk 2 (.loop [16] c203_2)) c203_r1)) c203_r2)
def c203_r3:C:=
 .q [.m 8 (.c (.b false))] [0,1,2,3,9,10,16] .ret
def c203:C:=
 (.q [.m 8 (.c (.b false))] [8] (.q [.m 13 1,.o 14 (.n .add 13 (.k 1)),.m 9 14] [13,14] (.seq (.q [.m 10 (.k 0)] [] (.blk 0 (.loop [] c203_3))) c203_r3)))
def d203:Fn:={ real:=203,np:=4,nt:=141,res:=[.t 8],body:=c203 }
def c204_0:C:=
 .seq (.seq (.dreg [(0,.m 50 11),(1,.m 51 12),(2,.o 52 (.n .leq 50 51)),(3,.m 53 52),(4,.g 54 53 (.mv 4)),(5,.g 55 53 (.mv 0)),(6,.g 56 53 (.mv 1)),(7,.g 57 53 (.ia 2 55 56)),(8,.g 58 53 (.ld 2 true 57)),(9,.g 59 53 (.mv 0)),(10,.g 60 53 (.mv 12)),(11,.g 61 53 (.ia 2 59 60)),(12,.g 62 53 (.ld 2 true 61)),(13,.g 63 53 (.calld 54 true [58,62])),(14,.g 64 53 (.n .lss 63 (.k 0))),(15,.o 65 (.pick 53 64 (.c (.b false))))] [50,51,52,53,54,55,56,57,58,59,60,61,62,63,64]) (.cond 65 .skip (.exit 4))) (.blk 5 (.reg [.m 66 12,.o 67 (.n .sub 66 (.k 1)),.m 12 67] [65,66,67]))
def c204_1:C:=
 .seq (.seq (.dreg [(0,.m 31 11),(1,.m 32 12),(2,.o 33 (.n .leq 31 32)),(3,.m 34 33),(4,.g 35 34 (.mv 4)),(5,.g 36 34 (.mv 0)),(6,.g 37 34 (.mv 1)),(7,.g 38 34 (.ia 2 36 37)),(8,.g 39 34 (.ld 2 true 38)),(9,.g 40 34 (.mv 0)),(10,.g 41 34 (.mv 11)),(11,.g 42 34 (.ia 2 40 41)),(12,.g 43 34 (.ld 2 true 42)),(13,.g 44 34 (.calld 35 true [39,43])),(14,.g 45 34 (.n .lss 44 (.k 0))),(15,.g 46 34 (.un .not 45)),(16,.o 47 (.pick 34 46 (.c (.b false))))] [31,32,33,34,35,36,37,38,39,40,41,42,43,44,45,46]) (.cond 47 .skip (.exit 2))) (.blk 3 (.reg [.m 48 11,.o 49 (.n .add 48 (.k 1)),.m 11 49] [47,48,49]))
def c204_r0:C:=
 .seq (.q [.m 68 11,.m 69 12,.o 70 (.n .gtr 68 69)] [65,68,69] (.cond 70 (.exit 0) .skip)) (.seq (.dreg [(0,.m 71 0),(1,.m 72 11),(2,.m 73 0),(3,.m 74 12),(4,.m 75 0),(5,.m 76 12),(6,.o 77 (.ia 2 75 76)),(7,.o 78 (.ld 2 true 77)),(8,.m 79 0),(9,.m 80 11),(10,.o 81 (.ia 2 79 80)),(11,.o 82 (.ld 2 true 81)),(12,.o 83 (.ia 2 71 72)),(13,.e (.st 2 true 83 78)),(14,.o 84 (.ia 2 73 74)),(15,.e (.st 2 true 84 82))] [70,71,72,73,74,75,76,77,78,79,80,81,82,83,84]) (.q [.m 85 11,.o 86 (.n .add 85 (.k 1)),.m 11 86] [85,86] (.reg [.m 87 12,.o 88 (.n .sub 87 (.k 1)),.m 12 88] [87,88])))
def c204_r1:C:=
 .seq (.blk 4 (.loop [47] c204_0)) c204_r0
def c204_2:C:=
 .blk 1 (.seq (.blk 2 (.loop [] c204_1)) c204_r1)
def c204_r2:C:=
 .q [.m 89 11,.m 10 89] [0,1,4,11,12,70,89] .ret
def c204:C:=
 (.q [.m 10 (.k 0)] [10] (.seq (.dreg [(0,.m 13 0),(1,.m 14 1),(2,.m 15 0),(3,.m 16 3),(4,.m 17 0),(5,.m 18 3),(6,.o 19 (.ia 2 17 18)),(7,.o 20 (.ld 2 true 19)),(8,.m 21 0),(9,.m 22 1),(10,.o 23 (.ia 2 21 22)),(11,.o 24 (.ld 2 true 23)),(12,.o 25 (.ia 2 13 14)),(13,.e (.st 2 true 25 20)),(14,.o 26 (.ia 2 15 16)),(15,.e (.st 2 true 26 24))] [3,13,14,15,16,17,18,19,20,21,22,23,24,25,26]) (.q [.m 27 1,.o 28 (.n .add 27 (.k 1)),.m 29 2,.o 30 (.n .sub 29 (.k 1)),.m 11 28,.m 12 30] [2,27,28,29,30] (.seq (.blk 0 (.loop [] c204_2)) c204_r2))))
def d204:Fn:={ real:=204,np:=5,nt:=90,res:=[.t 10],body:=c204 }
def c205_0:C:=
 .seq (.seq (.dreg [(0,.m 123 12),(1,.m 124 13),(2,.o 125 (.n .leq 123 124)),(3,.m 126 125),(4,.g 127 126 (.mv 4)),(5,.g 128 126 (.mv 0)),(6,.g 129 126 (.mv 13)),(7,.g 130 126 (.ia 2 128 129)),(8,.g 131 126 (.ld 2 true 130)),(9,.g 132 126 (.mv 0)),(10,.g 133 126 (.mv 1)),(11,.g 134 126 (.ia 2 132 133)),(12,.g 135 126 (.ld 2 true 134)),(13,.g 136 126 (.calld 127 true [131,135])),(14,.g 137 126 (.n .lss 136 (.k 0))),(15,.g 138 126 (.un .not 137)),(16,.o 139 (.pick 126 138 (.c (.b false))))] [123,124,125,126,127,128,129,130,131,132,133,134,135,136,137,138]) (.cond 139 .skip (.exit 8))) (.blk 9 (.reg [.m 140 13,.o 141 (.n .sub 140 (.k 1)),.m 13 141] [139,140,141]))
def c205_1:C:=
 .seq (.seq (.dreg [(0,.m 105 12),(1,.m 106 13),(2,.o 107 (.n .leq 105 106)),(3,.m 108 107),(4,.g 109 108 (.mv 4)),(5,.g 110 108 (.mv 0)),(6,.g 111 108 (.mv 12)),(7,.g 112 108 (.ia 2 110 111)),(8,.g 113 108 (.ld 2 true 112)),(9,.g 114 108 (.mv 0)),(10,.g 115 108 (.mv 1)),(11,.g 116 108 (.ia 2 114 115)),(12,.g 117 108 (.ld 2 true 116)),(13,.g 118 108 (.calld 109 true [113,117])),(14,.g 119 108 (.n .lss 118 (.k 0))),(15,.o 120 (.pick 108 119 (.c (.b false))))] [105,106,107,108,109,110,111,112,113,114,115,116,117,118,119]) (.cond 120 .skip (.exit 6))) (.blk 7 (.reg [.m 121 12,.o 122 (.n .add 121 (.k 1)),.m 12 122] [120,121,122]))
def c205_r0:C:=
 .seq (.q [.m 142 12,.m 143 13,.o 144 (.n .gtr 142 143)] [139,142,143] (.cond 144 (.exit 4) .skip)) (.seq (.dreg [(0,.m 145 0),(1,.m 146 12),(2,.m 147 0),(3,.m 148 13),(4,.m 149 0),(5,.m 150 13),(6,.o 151 (.ia 2 149 150)),(7,.o 152 (.ld 2 true 151)),(8,.m 153 0),(9,.m 154 12),(10,.o 155 (.ia 2 153 154)),(11,.o 156 (.ld 2 true 155)),(12,.o 157 (.ia 2 145 146)),(13,.e (.st 2 true 157 152)),(14,.o 158 (.ia 2 147 148)),(15,.e (.st 2 true 158 156))] [144,145,146,147,148,149,150,151,152,153,154,155,156,157,158]) (.q [.m 159 12,.o 160 (.n .add 159 (.k 1)),.m 12 160] [159,160] (.reg [.m 161 13,.o 162 (.n .sub 161 (.k 1)),.m 13 162] [161,162])))
def c205_r1:C:=
 .seq (.blk 8 (.loop [120] c205_0)) c205_r0
def c205_2:C:=
 .blk 5 (.seq (.blk 6 (.loop [] c205_1)) c205_r1)
def c205_3:C:=
 .seq (.seq (.dreg [(0,.m 50 12),(1,.m 51 13),(2,.o 52 (.n .leq 50 51)),(3,.m 53 52),(4,.g 54 53 (.mv 4)),(5,.g 55 53 (.mv 0)),(6,.g 56 53 (.mv 13)),(7,.g 57 53 (.ia 2 55 56)),(8,.g 58 53 (.ld 2 true 57)),(9,.g 59 53 (.mv 0)),(10,.g 60 53 (.mv 1)),(11,.g 61 53 (.ia 2 59 60)),(12,.g 62 53 (.ld 2 true 61)),(13,.g 63 53 (.calld 54 true [58,62])),(14,.g 64 53 (.n .lss 63 (.k 0))),(15,.g 65 53 (.un .not 64)),(16,.o 66 (.pick 53 65 (.c (.b false))))] [50,51,52,53,54,55,56,57,58,59,60,61,62,63,64,65]) (.cond 66 .skip (.exit 2))) (.blk 3 (.reg [.m 67 13,.o 68 (.n .sub 67 (.k 1)),.m 13 68] [66,67,68]))
def c205_4:C:=
 .seq (.seq (.dreg [(0,.m 32 12),(1,.m 33 13),(2,.o 34 (.n .leq 32 33)),(3,.m 35 34),(4,.g 36 35 (.mv 4)),(5,.g 37 35 (.mv 0)),(6,.g 38 35 (.mv 12)),(7,.g 39 35 (.ia 2 37 38)),(8,.g 40 35 (.ld 2 true 39)),(9,.g 41 35 (.mv 0)),(10,.g 42 35 (.mv 1)),(11,.g 43 35 (.ia 2 41 42)),(12,.g 44 35 (.ld 2 true 43)),(13,.g 45 35 (.calld 36 true [40,44])),(14,.g 46 35 (.n .lss 45 (.k 0))),(15,.o 47 (.pick 35 46 (.c (.b false))))] [32,33,34,35,36,37,38,39,40,41,42,43,44,45,46]) (.cond 47 .skip (.exit 0))) (.blk 1 (.reg [.m 48 12,.o 49 (.n .add 48 (.k 1)),.m 12 49] [47,48,49]))
def c205_r2:C:=
 .seq (.dreg [(0,.m 163 0),(1,.m 164 13),(2,.m 165 0),(3,.m 166 1),(4,.m 167 0),(5,.m 168 1),(6,.o 169 (.ia 2 167 168)),(7,.o 170 (.ld 2 true 169)),(8,.m 171 0),(9,.m 172 13),(10,.o 173 (.ia 2 171 172)),(11,.o 174 (.ld 2 true 173)),(12,.o 175 (.ia 2 163 164)),(13,.e (.st 2 true 175 170)),(14,.o 176 (.ia 2 165 166)),(15,.e (.st 2 true 176 174))] [0,1,4,12,144,163,164,165,166,167,168,169,170,171,172,173,174,175,176]) (.q [.m 177 13,.m 10 177,.m 11 (.c (.b false))] [13,177] .ret)
def c205_r3:C:=
 .seq (.q [.m 69 12,.m 70 13,.o 71 (.n .gtr 69 70)] [66,69,70] (.cond 71 (.seq (.dreg [(0,.m 72 0),(1,.m 73 13),(2,.m 74 0),(3,.m 75 1),(4,.m 76 0),(5,.m 77 1),(6,.o 78 (.ia 2 76 77)),(7,.o 79 (.ld 2 true 78)),(8,.m 80 0),(9,.m 81 13),(10,.o 82 (.ia 2 80 81)),(11,.o 83 (.ld 2 true 82)),(12,.o 84 (.ia 2 72 73)),(13,.e (.st 2 true 84 79)),(14,.o 85 (.ia 2 74 75)),(15,.e (.st 2 true 85 83))] [0,1,4,12,71,72,73,74,75,76,77,78,79,80,81,82,83,84,85]) (.q [.m 86 13,.m 10 86,.m 11 (.c (.b true))] [13,86] .ret)) .skip)) (.seq (.dreg [(0,.m 87 0),(1,.m 88 12),(2,.m 89 0),(3,.m 90 13),(4,.m 91 0),(5,.m 92 13),(6,.o 93 (.ia 2 91 92)),(7,.o 94 (.ld 2 true 93)),(8,.m 95 0),(9,.m 96 12),(10,.o 97 (.ia 2 95 96)),(11,.o 98 (.ld 2 true 97)),(12,.o 99 (.ia 2 87 88)),(13,.e (.st 2 true 99 94)),(14,.o 100 (.ia 2 89 90)),(15,.e (.st 2 true 100 98))] [71,87,88,89,90,91,92,93,94,95,96,97,98,99,100]) (.q [.m 101 12,.o 102 (.n .add 101 (.k 1)),.m 12 102] [101,102] (.q [.m 103 13,.o 104 (.n .sub 103 (.k 1)),.m 13 104] [103,104] (.seq (.blk 4 (.loop [] c205_2)) c205_r2))))
def c205_r4:C:=
 .seq (.blk 2 (.loop [47] c205_3)) c205_r3
def c205:C:=
 (.q [.m 10 (.k 0),.m 11 (.c (.b false))] [10,11] (.seq (.dreg [(0,.m 14 0),(1,.m 15 1),(2,.m 16 0),(3,.m 17 3),(4,.m 18 0),(5,.m 19 3),(6,.o 20 (.ia 2 18 19)),(7,.o 21 (.ld 2 true 20)),(8,.m 22 0),(9,.m 23 1),(10,.o 24 (.ia 2 22 23)),(11,.o 25 (.ld 2 true 24)),(12,.o 26 (.ia 2 14 15)),(13,.e (.st 2 true 26 21)),(14,.o 27 (.ia 2 16 17)),(15,.e (.st 2 true 27 25))] [3,14,15,16,17,18,19,20,21,22,23,24,25,26,27]) (.q [.m 28 1,.o 29 (.n .add 28 (.k 1)),.m 30 2,.o 31 (.n .sub 30 (.k 1)),.m 12 29,.m 13 31] [2,28,29,30,31] (.seq (.blk 0 (.loop [] c205_4)) c205_r4))))
def d205:Fn:={ real:=205,np:=5,nt:=178,res:=[.t 10,.t 11],body:=c205 }
def c206:C:=
 (.q [.m 2 (.k 0)] [] (.seq (.q [.m 3 0,.o 4 (.n .geq 3 (.c (.i .u32 65536)))] [3] (.cond 4 (.q [.m 5 0,.o 6 (.n .shr 5 (.c (.i .u64 16))),.m 0 6] [2,4,5,6] (.reg [.m 2 (.k 16)] [])) .skip)) (.seq (.q [.m 7 0,.o 8 (.n .geq 7 (.c (.i .u32 256)))] [4,7] (.cond 8 (.q [.m 9 0,.o 10 (.n .shr 9 (.c (.i .u64 8))),.m 0 10] [8,9,10] (.reg [.m 11 2,.o 12 (.n .add 11 (.k 8)),.m 2 12] [11,12])) .skip)) (.q [.m 13 2,.m 14 0,.o 15 (.conv .u8 14),.o 16 (.ixs (.c (.s [0,1,2,2,3,3,3,3,4,4,4,4,4,4,4,4,5,5,5,5,5,5,5,5,5,5,5,5,5,5,5,5,6,6,6,6,6,6,6,6,6,6,6,6,6,6,6,6,6,6,6,6,6,6,6,6,6,6,6,6,6,6,6,6,7,7,7,7,7,7,7,7,7,7,7,7,7,7,7,7,7,7,7,7,7,7,7,7,7,7,7,7,7,7,7,7,7,7,7,7,7,7,7,7,7,7,7,7,7,7,7,7,7,7,7,7,7,7,7,7,7,7,7,7,7,7,7,7,8,8,8,8,8,8,8,8,8,8,8,8,8,8,8,8,8,8,8,8,8,8,8,8,8,8,8,8,8,8,8,8,8,8,8,8,8,8,8,8,8,8,8,8,8,8,8,8,8,8,8,8,8,8,8,8,8,8,8,8,8,8,8,8,8,8,8,8,8,8,8,8,8,8,8,8,8,8,8,8,8,8,8,8,8,8,8,8,8,8,8,8,8,8,8,8,8,8,8,8,8,8,8,8,8,8,8,8,8,8,8,8,8,8,8,8,8,8,8,8,8,8,8,8,8,8,8,8])) 15),.o 17 (.conv .i64 16),.o 18 (.n .add 13 17),.m 2 18] [0,8,13,14,15,16,17,18] .ret))))
def d206:Fn:={ real:=206,np:=1,nt:=19,res:=[.t 2],body:=c206 }
def c207:C:=
 (.q [.m 2 (.k 0)] [] (.seq (.q [.m 3 0,.o 4 (.n .geq 3 (.c (.i .u64 4294967296)))] [3] (.cond 4 (.q [.m 5 0,.o 6 (.n .shr 5 (.c (.i .u64 32))),.m 0 6] [2,4,5,6] (.reg [.m 2 (.k 32)] [])) .skip)) (.seq (.q [.m 7 0,.o 8 (.n .geq 7 (.c (.i .u64 65536)))] [4,7] (.cond 8 (.q [.m 9 0,.o 10 (.n .shr 9 (.c (.i .u64 16))),.m 0 10] [8,9,10] (.reg [.m 11 2,.o 12 (.n .add 11 (.k 16)),.m 2 12] [11,12])) .skip)) (.seq (.q [.m 13 0,.o 14 (.n .geq 13 (.c (.i .u64 256)))] [8,13] (.cond 14 (.q [.m 15 0,.o 16 (.n .shr 15 (.c (.i .u64 8))),.m 0 16] [14,15,16] (.reg [.m 17 2,.o 18 (.n .add 17 (.k 8)),.m 2 18] [17,18])) .skip)) (.q [.m 19 2,.m 20 0,.o 21 (.conv .u8 20),.o 22 (.ixs (.c (.s [0,1,2,2,3,3,3,3,4,4,4,4,4,4,4,4,5,5,5,5,5,5,5,5,5,5,5,5,5,5,5,5,6,6,6,6,6,6,6,6,6,6,6,6,6,6,6,6,6,6,6,6,6,6,6,6,6,6,6,6,6,6,6,6,7,7,7,7,7,7,7,7,7,7,7,7,7,7,7,7,7,7,7,7,7,7,7,7,7,7,7,7,7,7,7,7,7,7,7,7,7,7,7,7,7,7,7,7,7,7,7,7,7,7,7,7,7,7,7,7,7,7,7,7,7,7,7,7,8,8,8,8,8,8,8,8,8,8,8,8,8,8,8,8,8,8,8,8,8,8,8,8,8,8,8,8,8,8,8,8,8,8,8,8,8,8,8,8,8,8,8,8,8,8,8,8,8,8,8,8,8,8,8,8,8,8,8,8,8,8,8,8,8,8,8,8,8,8,8,8,8,8,8,8,8,8,8,8,8,8,8,8,8,8,8,8,8,8,8,8,8,8,8,8,8,8,8,8,8,8,8,8,8,8,8,8,8,8,8,8,8,8,8,8,8,8,8,8,8,8,8,8,8,8,8,8])) 21),.o 23 (.conv .i64 22),.o 24 (.n .add 19 23),.m 2 24] [0,14,19,20,21,22,23,24] .ret)))))
def d207:Fn:={ real:=207,np:=1,nt:=25,res:=[.t 2],body:=c207 }
def c214:C:=
 (.q [.m 2 (.c (.b false))] [2] (.q [.m 3 0,.m 4 0,.o 5 (.n .neq 3 4),.m 2 5] [0,3,4,5] .ret))
def d214:Fn:={ real:=214,np:=1,nt:=6,res:=[.t 2],body:=c214 }
def c215:C:=
 (.q [.m 4 (.k 0)] [4] (.q [.m 5 0,.m 6 1,.o 7 (.cmps 5 6),.m 4 7] [0,1,5,6,7] .ret))
def d215:Fn:={ real:=215,np:=2,nt:=8,res:=[.t 4],body:=c215 }
def c216_0:C:=
 .blk 1 (.q [.m 13 10,.o 14 (.n .mul (.k 2) 13),.o 15 (.n .add 14 (.k 1)),.m 11 15] [13,14,15] (.seq (.q [.m 16 11,.m 17 2,.o 18 (.n .geq 16 17)] [16,17] (.cond 18 (.exit 0) .skip)) (.seq (.seq (.dreg [(0,.m 19 11),(1,.o 20 (.n .add 19 (.k 1))),(2,.m 21 2),(3,.o 22 (.n .lss 20 21)),(4,.m 23 22),(5,.g 24 23 (.mv 4)),(6,.g 25 23 (.mv 0)),(7,.g 26 23 (.mv 3)),(8,.g 27 23 (.mv 11)),(9,.g 28 23 (.n .add 26 27)),(10,.g 29 23 (.ia 2 25 28)),(11,.g 30 23 (.ld 2 true 29)),(12,.g 31 23 (.mv 0)),(13,.g 32 23 (.mv 3)),(14,.g 33 23 (.mv 11)),(15,.g 34 23 (.n .add 32 33)),(16,.g 35 23 (.n .add 34 (.k 1))),(17,.g 36 23 (.ia 2 31 35)),(18,.g 37 23 (.ld 2 true 36)),(19,.g 38 23 (.calld 24 true [30,37])),(20,.g 39 23 (.n .lss 38 (.k 0))),(21,.o 40 (.pick 23 39 (.c (.b false))))] [18,19,20,21,22,23,24,25,26,27,28,29,30,31,32,33,34,35,36,37,38,39]) (.cond 40 (.reg [.m 41 11,.o 42 (.n .add 41 (.k 1)),.m 11 42] [40,41,42]) .skip)) (.seq (.seq (.dreg [(0,.m 43 4),(1,.m 44 0),(2,.m 45 3),(3,.m 46 10),(4,.o 47 (.n .add 45 46)),(5,.o 48 (.ia 2 44 47)),(6,.o 49 (.ld 2 true 48)),(7,.m 50 0),(8,.m 51 3),(9,.m 52 11),(10,.o 53 (.n .add 51 52)),(11,.o 54 (.ia 2 50 53)),(12,.o 55 (.ld 2 true 54)),(13,.o 56 (.calld 43 true [49,55])),(14,.o 57 (.n .lss 56 (.k 0))),(15,.o 58 (.un .not 57))] [40,43,44,45,46,47,48,49,50,51,52,53,54,55,56,57]) (.cond 58 .ret .skip)) (.seq (.dreg [(0,.m 59 0),(1,.m 60 3),(2,.m 61 10),(3,.o 62 (.n .add 60 61)),(4,.m 63 0),(5,.m 64 3),(6,.m 65 11),(7,.o 66 (.n .add 64 65)),(8,.m 67 0),(9,.m 68 3),(10,.m 69 11),(11,.o 70 (.n .add 68 69)),(12,.o 71 (.ia 2 67 70)),(13,.o 72 (.ld 2 true 71)),(14,.m 73 0),(15,.m 74 3),(16,.m 75 10),(17,.o 76 (.n .add 74 75)),(18,.o 77 (.ia 2 73 76)),(19,.o 78 (.ld 2 true 77)),(20,.o 79 (.ia 2 59 62)),(21,.e (.st 2 true 79 72)),(22,.o 80 (.ia 2 63 66)),(23,.e (.st 2 true 80 78))] [10,58,59,60,61,62,63,64,65,66,67,68,69,70,71,72,73,74,75,76,77,78,79,80]) (.reg [.m 81 11,.m 10 81] [11,81]))))))
def c216:C:=
 (.q [.m 12 1,.m 10 12] [1,12] (.blk 0 (.loop [] c216_0)))
def d216:Fn:={ real:=216,np:=5,nt:=82,res:=[],body:=c216 }
def c217:C:=
 (.q [.m 2 (.c (.i .u64 0))] [2] (.q [.m 3 0,.o 4 (.conv .u64 3),.o 5 (.call 175 true [4]),.o 6 (.n .shl (.c (.i .u64 1)) 5),.m 2 6] [0,3,4,5,6] .ret))
def d217:Fn:={ real:=217,np:=1,nt:=7,res:=[.t 2],body:=c217 }
def c218:C:=
 (.q [.m 2 (.c (.i .u64 0))] [2] (.seq (.dreg [(0,.m 3 0),(1,.o 4 (.nilck 3)),(2,.o 5 (.ld 1 false 4)),(3,.m 6 0),(4,.o 7 (.nilck 6)),(5,.o 8 (.ld 1 false 7)),(6,.o 9 (.n .shl 8 (.c (.i .u64 13)))),(7,.o 10 (.n .xor 5 9)),(8,.o 11 (.nilck 3)),(9,.e (.st 1 false 11 10))] [3,4,5,6,7,8,9,10,11]) (.seq (.dreg [(0,.m 12 0),(1,.o 13 (.nilck 12)),(2,.o 14 (.ld 1 false 13)),(3,.m 15 0),(4,.o 16 (.nilck 15)),(5,.o 17 (.ld 1 false 16)),(6,.o 18 (.n .shr 17 (.c (.i .u64 7)))),(7,.o 19 (.n .xor 14 18)),(8,.o 20 (.nilck 12)),(9,.e (.st 1 false 20 19))] [12,13,14,15,16,17,18,19,20]) (.seq (.dreg [(0,.m 21 0),(1,.o 22 (.nilck 21)),(2,.o 23 (.ld 1 false 22)),(3,.m 24 0),(4,.o 25 (.nilck 24)),(5,.o 26 (.ld 1 false 25)),(6,.o 27 (.n .shl 26 (.c (.i .u64 17)))),(7,.o 28 (.n .xor 23 27)),(8,.o 29 (.nilck 21)),(9,.e (.st 1 false 29 28))] [21,22,23,24,25,26,27,28,29]) (.q [.m 30 0,.o 31 (.nilck 30),.o 32 (.ld 1 false 31),.m 2 32] [0,30,31,32] .ret)))))
def d218:Fn:={ real:=218,np:=1,nt:=33,res:=[.t 2],body:=c218 }
def c219:C:=
 (.q [.m 8 (.k 0)] [8] (.q [.m 9 0,.m 10 1,.o 11 (.n .sub 10 (.k 1)),.m 12 1,.m 13 1,.o 14 (.n .add 13 (.k 1)),.m 15 2,.m 16 3,.o 17 (.call 220 false [9,11,12,14,15,16]),.m 8 17] [0,1,2,3,9,10,11,12,13,14,15,16,17] .ret))
def d219:Fn:={ real:=219,np:=4,nt:=18,res:=[.t 8],body:=c219 }
def c220:C:=
 (.q [.m 12 (.k 0)] [12] (.q [.m 14 0,.m 15 1,.m 16 2,.m 17 4,.m 18 5,.o 19 (.call 224 false [14,15,16,17,18]),.m 13 19,.o 20 (.ext 13 0),.o 21 (.ext 13 1),.m 1 20,.m 2 21] [13,14,15,16,17,18,19,20,21] (.q [.m 23 0,.m 24 2,.m 25 3,.m 26 4,.m 27 5,.o 28 (.call 224 false [23,24,25,26,27]),.m 22 28,.o 29 (.ext 22 0),.o 30 (.ext 22 1),.m 2 29,.m 3 30] [3,22,23,24,25,26,27,28,29,30] (.q [.m 32 0,.m 33 1,.m 34 2,.m 35 4,.m 36 5,.o 37 (.call 224 false [32,33,34,35,36]),.m 31 37,.o 38 (.ext 31 0),.o 39 (.ext 31 1),.m 1 38,.m 2 39] [0,1,4,5,31,32,33,34,35,36,37,38,39] (.q [.m 40 2,.m 12 40] [2,40] .ret)))))
def d220:Fn:={ real:=220,np:=6,nt:=41,res:=[.t 12],body:=c220 }
def c224:C:=
 (.q [.m 10 (.k 0),.m 11 (.k 0)] [10,11] (.seq (.seq (.dreg [(0,.m 12 4),(1,.m 13 0),(2,.m 14 2),(3,.o 15 (.ia 2 13 14)),(4,.o 16 (.ld 2 true 15)),(5,.m 17 0),(6,.m 18 1),(7,.o 19 (.ia 2 17 18)),(8,.o 20 (.ld 2 true 19)),(9,.o 21 (.calld 12 true [16,20])),(10,.o 22 (.n .lss 21 (.k 0)))] [0,4,12,13,14,15,16,17,18,19,20,21]) (.cond 22 (.q [.m 23 3,.o 24 (.nilck 23),.o 25 (.ld 1 false 24),.o 26 (.n .add 25 (.k 1)),.o 27 (.nilck 23),.e (.st 1 false 27 26)] [3,22,23,24,25,26,27] (.q [.m 28 2,.m 29 1,.m 10 28,.m 11 29] [1,2,28,29] .ret)) .skip)) (.q [.m 30 1,.m 31 2,.m 10 30,.m 11 31] [1,2,3,22,30,31] .ret)))
def d224:Fn:={ real:=224,np:=5,nt:=32,res:=[.t 10,.t 11],body:=c224 }
def c1049:C:=
 (.q [.m 2 (.c (.sl 2 true [] .ro))] [2] (.seq (.q [.m 3 0,.o 4 (.bin .eql .sl 3 (.c (.sl 2 true [] .ro)))] [3] (.cond 4 (.q [.m 2 (.c (.sl 2 true [] .ro))] [0,4] .ret) .skip)) (.q [.o 5 (.bsl 2 true true []),.m 6 0,.o 7 (.app 2 true 5 6),.m 2 7] [0,4,5,6,7] .ret)))
def d1049:Fn:={ real:=49,np:=1,nt:=8,res:=[.t 2],body:=c1049 }
def c2155:C:=
 (.q [.m 4 (.c (.b false))] [4] (.q [.m 5 0,.m 6 1,.o 7 (.call 2193 false [5,6]),.o 8 (.n .geq 7 (.k 0)),.m 4 8] [0,1,5,6,7,8] .ret))
def d2155:Fn:={ real:=155,np:=2,nt:=9,res:=[.t 4],body:=c2155 }
def c2193_0:C:=
 .q [.o 9 (.n .lss 8 7)] [] (.seq (.cond 9 .skip (.exit 0)) (.seq (.blk 1 (.q [.m 10 8,.m 5 10] [9,10] (.q [.m 11 1,.m 12 0,.m 13 5,.o 14 (.ia 4 12 13),.o 15 (.ld 4 true 14),.o 16 (.calld 11 false [15])] [11,12,13,14,15] (.cond 16 (.q [.m 17 5,.m 4 17] [0,1,5,7,8,16,17] .ret) .skip)))) (.reg [.o 18 (.n .add 8 (.k 1)),.m 8 18] [5,16,18])))
def c2193_r0:C:=
 .q [.o 4 (.mv (.k (-1)))] [0,1,7,8,9] .ret
def c2193:C:=
 (.q [.m 4 (.k 0)] [4] (.seq (.q [.m 6 0,.o 7 (.len false 6),.m 8 (.k 0)] [6] (.blk 0 (.loop [] c2193_0))) c2193_r0))
def d2193:Fn:={ real:=193,np:=2,nt:=19,res:=[.t 4],body:=c2193 }
end Go.Proofs.YtjlmeikcfdanmaaGreatDoor.DE

namespace Go.Proofs.YtjlmeikcfdanmaaGreatDoor.DE
def dpL:List (Nat × Fn):=[(4,d4),(10,d10),(12,d12),(13,d13),(14,d14),(15,d15),(16,d16),(17,d17),(18,d18),(19,d19),(20,d20),(21,d21),(22,d22),(23,d23),(26,d26),(28,d28),(29,d29),(30,d30),(31,d31),(32,d32),(33,d33),(35,d35),(44,d44),(45,d45),(46,d46),(47,d47),(48,d48),(49,d49),(50,d50),(51,d51),(52,d52),(53,d53),(54,d54),(55,d55),(59,d59),(60,d60),(61,d61),(62,d62),(63,d63),(64,d64),(65,d65),(66,d66),(67,d67),(68,d68),(69,d69),(70,d70),(71,d71),(72,d72),(73,d73),(74,d74),(75,d75),(76,d76),(77,d77),(78,d78),(79,d79),(80,d80),(81,d81),(83,d83),(84,d84),(85,d85),(86,d86),(87,d87),(88,d88),(89,d89),(90,d90),(91,d91),(92,d92),(93,d93),(94,d94),(95,d95),(96,d96),(97,d97),(98,d98),(99,d99),(100,d100),(101,d101),(102,d102),(103,d103),(104,d104),(105,d105),(106,d106),(107,d107),(108,d108),(109,d109),(110,d110),(111,d111),(112,d112),(113,d113),(114,d114),(115,d115),(116,d116),(117,d117),(118,d118),(119,d119),(120,d120),(121,d121),(122,d122),(123,d123),(124,d124),(127,d127),(128,d128),(135,d135),(136,d136),(137,d137),(138,d138),(139,d139),(140,d140),(141,d141),(142,d142),(143,d143),(144,d144),(145,d145),(146,d146),(147,d147),(148,d148),(149,d149),(150,d150),(151,d151),(152,d152),(153,d153),(154,d154),(155,d155),(156,d156),(157,d157),(158,d158),(159,d159),(160,d160),(161,d161),(162,d162),(163,d163),(164,d164),(165,d165),(166,d166),(167,d167),(168,d168),(169,d169),(170,d170),(171,d171),(172,d172),(173,d173),(174,d174),(175,d175),(176,d176),(177,d177),(179,d179),(185,d185),(186,d186),(187,d187),(188,d188),(189,d189),(190,d190),(191,d191),(192,d192),(193,d193),(194,d194),(195,d195),(196,d196),(197,d197),(198,d198),(199,d199),(200,d200),(201,d201),(202,d202),(203,d203),(204,d204),(205,d205),(206,d206),(207,d207),(214,d214),(215,d215),(216,d216),(217,d217),(218,d218),(219,d219),(220,d220),(224,d224),(1049,d1049),(2155,d2155),(2193,d2193)]
def dp (g:Nat):Option Fn:=dpL.lookup g
end Go.Proofs.YtjlmeikcfdanmaaGreatDoor.DE

namespace Go.Proofs.YtjlmeikcfdanmaaGreatDoor.DE
open Go
theorem all_match:dpL.all (fun p=>mFn Tryz.prog dp p.2)=true:=by kernel_rfl
theorem mixed:(Tryz.prog).follows .mixedOrders=true:=by kernel_rfl
theorem lookup_mem {α:Type}:∀ {l:List (Nat × α)} {g:Nat} {f:α},l.lookup g=some f→∃ p∈l,p.2=f
 | [],_,_,h=>by simp at h
 | (k,x)::l,g,f,h=>by
  simp only [List.lookup_cons] at h
  split at h
  ·injection h with h
   exact ⟨(k,x),by simp,h⟩
  ·obtain ⟨p,h1,h2⟩:=lookup_mem h
   exact ⟨p,by simp [h1],h2⟩
theorem good:Good Tryz.prog dp:=by
 intro g f h
 obtain ⟨p,h1,rfl⟩:=lookup_mem h
 exact List.all_eq_true.1 all_match p h1
theorem sound:CallOk Tryz.prog dp (call dp):=call_sound mixed good
end Go.Proofs.YtjlmeikcfdanmaaGreatDoor.DE

namespace Go.Proofs.YtjlmeikcfdanmaaGreatDoor.DE
open Go
section
variable {cf:CallF} {fr fr':List D} {S S':Store}
def W (cf:CallF) (c:C) (fr:List D) (S:Store) (Q:Ex→List D→Store→Prop):Prop:=match execL cf c fr S with
 | some (ex,fr',S')=>Q ex fr' S'
 | none=>False
theorem W_ex {c:C} {Q:Ex→List D→Store→Prop}:W cf c fr S Q↔∃ ex fr' S',execL cf c fr S=some (ex,fr',S')∧Q ex fr' S':=by
 unfold W
 cases h:execL cf c fr S with
 | none=>simp
 | some p=>
  obtain ⟨ex,f1,S1⟩:=p
  constructor
  ·exact fun h=>⟨ex,f1,S1,rfl,h⟩
  ·rintro ⟨ex',f2,S2,h1,h2⟩
   injection h1 with h1
   injection h1 with h1 h3
   injection h3 with h3 h4
   subst h1 h3 h4
   exact h2
def Qseq (K:List D→Store→Prop) (Q:Ex→List D→Store→Prop):Ex→List D→Store→Prop
 | .normal,fr,S=>K fr S
 | ex,fr,S=>Q ex fr S
def Qblk (id:Nat) (Q:Ex→List D→Store→Prop):Ex→List D→Store→Prop
 | .exit j,fr,S=>if j=id then Q .normal fr S else Q (.exit j) fr S
 | ex,fr,S=>Q ex fr S
def WB (d:D) (X Y:Prop):Prop:=match d with
 | .b true=>X
 | .b false=>Y
 | _=>False
def WG (d:D) (w:Bool) (X Y:Prop):Prop:=match d with
 | .b x=>if x=w then X else Y
 | .tup []=>Y
 | _=>False
def WR (r:Option (D × Store)) (K:D→Store→Prop):Prop:=match r with
 | some (d,S)=>K d S
 | none=>False
def WI (cf:CallF):List I→List D→Store→(List D→Store→Prop)→Prop
 | [],fr,S,Q=>Q fr S
 | i::is,fr,S,Q=>match evI cf fr S i with
  | some (fr',S')=>WI cf is fr' S' Q
  | none=>False
def WD (cf:CallF):List (Nat × I)→List D→Store→(List D→Store→Prop)→Prop
 | [],fr,S,Q=>Q fr S
 | (_,i)::is,fr,S,Q=>match evI cf fr S i with
  | some (fr',S')=>WD cf is fr' S' Q
  | none=>False
@[congr] theorem W_congr {c:C} {Q:Ex→List D→Store→Prop} (h:fr=fr') (k:S=S'):W cf c fr S Q=W cf c fr' S' Q:=by rw [h,k]
@[congr] theorem WI_congr {c:List I} {Q:List D→Store→Prop} (h:fr=fr') (k:S=S'):WI cf c fr S Q=WI cf c fr' S' Q:=by rw [h,k]
@[congr] theorem WD_congr {c:List (Nat × I)} {Q:List D→Store→Prop} (h:fr=fr') (k:S=S'):WD cf c fr S Q=WD cf c fr' S' Q:=by rw [h,k]
@[congr] theorem WB_congr {d d':D} {X Y:Prop} (h:d=d'):WB d X Y=WB d' X Y:=by rw [h]
@[congr] theorem WG_congr {d d':D} {w:Bool} {X Y:Prop} (h:d=d'):WG d w X Y=WG d' w X Y:=by rw [h]
@[congr] theorem WR_congr {r r':Option (D × Store)} {K:D→Store→Prop} (h:r=r'):WR r K=WR r' K:=by rw [h]
@[congr] theorem Qseq_congr {K:List D→Store→Prop} {Q:Ex→List D→Store→Prop} {ex ex':Ex} (e:ex=ex') (h:fr=fr') (k:S=S'):Qseq K Q ex fr S=Qseq K Q ex' fr' S':=by rw [e,h,k]
@[congr] theorem Qblk_congr {id:Nat} {Q:Ex→List D→Store→Prop} {ex ex':Ex} (e:ex=ex') (h:fr=fr') (k:S=S'):Qblk id Q ex fr S=Qblk id Q ex' fr' S':=by rw [e,h,k]
theorem Qseq_normal (K:List D→Store→Prop) (Q:Ex→List D→Store→Prop) (fr:List D) (S:Store):Qseq K Q .normal fr S=K fr S:=(rfl)
theorem Qseq_exit (K:List D→Store→Prop) (Q:Ex→List D→Store→Prop) (id:Nat) (fr:List D) (S:Store):Qseq K Q (.exit id) fr S=Q (.exit id) fr S:=(rfl)
theorem Qseq_ret (K:List D→Store→Prop) (Q:Ex→List D→Store→Prop) (fr:List D) (S:Store):Qseq K Q .ret fr S=Q .ret fr S:=(rfl)
theorem Qblk_normal (id:Nat) (Q:Ex→List D→Store→Prop) (fr:List D) (S:Store):Qblk id Q .normal fr S=Q .normal fr S:=(rfl)
theorem Qblk_ret (id:Nat) (Q:Ex→List D→Store→Prop) (fr:List D) (S:Store):Qblk id Q .ret fr S=Q .ret fr S:=(rfl)
theorem Qblk_same (id:Nat) (Q:Ex→List D→Store→Prop) (fr:List D) (S:Store):Qblk id Q (.exit id) fr S=Q .normal fr S:=by simp [Qblk]
theorem Qblk_other (id j:Nat) (h:(j == id)=false) (Q:Ex→List D→Store→Prop) (fr:List D) (S:Store):Qblk id Q (.exit j) fr S=Q (.exit j) fr S:=by
 have:¬j=id:=by simpa using h
 simp [Qblk,this]
theorem WB_true (X Y:Prop):WB (.b true) X Y=X:=rfl
theorem W_skip (Q:Ex→List D→Store→Prop):W cf .skip fr S Q=Q .normal fr S:=by simp [W,execL]
theorem W_exit (id:Nat) (Q:Ex→List D→Store→Prop):W cf (.exit id) fr S Q=Q (.exit id) fr S:=by simp [W,execL]
theorem W_ret (Q:Ex→List D→Store→Prop):W cf .ret fr S Q=Q .ret fr S:=by simp [W,execL]
theorem WI_iff (Q:List D→Store→Prop):∀ (is:List I) (fr:List D) (S:Store),WI cf is fr S Q=match evIs cf fr S is with | some (fr',S')=>Q fr' S' | none=>False
 | [],fr,S=>rfl
 | i::is,fr,S=>by
  simp only [WI,evIs]
  cases evI cf fr S i with
  | none=>rfl
  | some p=>exact WI_iff Q is p.1 p.2
theorem WD_WI (Q:List D→Store→Prop):∀ (is:List (Nat × I)) (fr:List D) (S:Store),WD cf is fr S Q↔WI cf (snds is) fr S Q
 | [],fr,S=>Iff.rfl
 | (j,i)::is,fr,S=>by
  simp only [WD,snds,WI]
  cases evI cf fr S i with
  | none=>exact Iff.rfl
  | some p=>exact WD_WI Q is p.1 p.2
theorem W_reg (is:List I) (kl:List Nat) (Q:Ex→List D→Store→Prop):W cf (.reg is kl) fr S Q=WI cf is fr S (fun fr S=>Q .normal (fkill fr kl) S):=by
 rw [WI_iff]
 simp only [W,execL]
 cases h:evIs cf fr S is <;> rfl
theorem W_dreg (is:List (Nat × I)) (kl:List Nat) (Q:Ex→List D→Store→Prop):W cf (.dreg is kl) fr S Q=WD cf is fr S (fun fr S=>Q .normal (fkill fr kl) S):=by
 rw [propext (WD_WI _ is fr S),WI_iff]
 simp only [W,execL]
 cases h:evIs cf fr S (snds is) <;> rfl
theorem W_seq (x y:C) (Q:Ex→List D→Store→Prop):W cf (.seq x y) fr S Q=W cf x fr S (Qseq (fun fr S=>W cf y fr S Q) Q):=by
 simp only [W,execL]
 cases h:execL cf x fr S with
 | none=>rfl
 | some p=>
  obtain ⟨ex,f1,S1⟩:=p
  cases ex <;> rfl
theorem W_blk (id:Nat) (x:C) (Q:Ex→List D→Store→Prop):W cf (.blk id x) fr S Q=W cf x fr S (Qblk id Q):=by
 simp only [W,execL]
 cases h:execL cf x fr S with
 | none=>rfl
 | some p=>
  obtain ⟨ex,f1,S1⟩:=p
  cases ex with
  | normal=>rfl
  | exit j=>
   simp only [Qblk]
   split <;> rfl
  | ret=>rfl
theorem W_cond (q:A) (x y:C) (Q:Ex→List D→Store→Prop):W cf (.cond q x y) fr S Q=WB (av fr q) (W cf x fr S Q) (W cf y fr S Q):=by
 simp only [W,execL]
 cases av fr q <;> try rfl
 rename_i b
 cases b <;> rfl
theorem WI_op (dst:Option Nat) (r:R) (is:List I) (Q:List D→Store→Prop):WI cf (.op dst none r::is) fr S Q=WR (evR cf fr S r) (fun d S=>WI cf is (fsetO fr dst d) S Q):=by
 simp only [WI,evI,DE.wanted]
 cases evR cf fr S r <;> rfl
theorem WI_gd (dst:Option Nat) (t:Nat) (w:Bool) (r:R) (is:List I) (Q:List D→Store→Prop):WI cf (.op dst (some (t,w)) r::is) fr S Q =
  WG (fget fr t) w (WR (evR cf fr S r) (fun d S=>WI cf is (fsetO fr dst d) S Q)) (WI cf is (fsetO fr dst (.tup [])) S Q):=by
 simp only [WI,evI,DE.wanted]
 generalize fget fr t=d
 cases d <;> try rfl
 ·rename_i x
  by_cases h:x=w
  ·subst h
   simp only [beq_self_eq_true,WG,if_true]
   cases evR cf fr S r <;> rfl
  ·have:(x == w)=false:=by simpa using h
   simp [WG,h,this]
 ·rename_i l
  cases l <;> rfl
theorem WI_fz (t:Nat) (is:List I) (Q:List D→Store→Prop):WI cf (.fz t::is) fr S Q=WR (fzD (fget fr t) S) (fun d S=>WI cf is (fset fr t d) S Q):=by
 simp only [WI,evI]
 cases fzD (fget fr t) S <;> rfl
def WK (r:Option (D × Store)) (d:D) (K:Prop):Prop:=match r with
 | some (e,_)=>deq e d=true∧K
 | none=>False
@[congr] theorem WK_congr {r r':Option (D × Store)} {d d':D} {K:Prop} (h:r=r') (k:d=d'):WK r d K=WK r' d' K:=by rw [h,k]
theorem W_loop {kl:List Nat} {c:C} {Q:Ex→List D→Store→Prop} (J:Nat→List D→Store→Prop)
  (h:∀ m fr S,J m fr S→W cf c (fkill fr kl) S (Qseq (fun fr' S'=>∃ m',m'<m∧J m' fr' S') Q)):∀ m fr S,J m fr S→W cf (.loop kl c) fr S Q:=by
 have key:∀ m fr S,J m fr S→∃ n ex fr' S',iter (fun fr S=>execL cf c (fkill fr kl) S) n fr S=some (ex,fr',S')∧Q ex fr' S':=by
  intro m
  induction m using Nat.strongRecOn with
  | _ m ih=>
   intro fr S hJ
   obtain ⟨ex,f1,S1,he,hq⟩:=W_ex.1 (h m fr S hJ)
   cases ex with
   | normal=>
    obtain ⟨m',hlt,hJ'⟩:=hq
    obtain ⟨n,ex',f2,S2,he2,hq2⟩:=ih m' hlt f1 S1 hJ'
    exact ⟨n+1,ex',f2,S2,by simp only [iter,he];exact he2,hq2⟩
   | exit id=>exact ⟨1,.exit id,f1,S1,by simp only [iter,he],hq⟩
   | ret=>exact ⟨1,.ret,f1,S1,by simp only [iter,he],hq⟩
 intro m fr S hJ
 obtain ⟨n,ex,f1,S1,he,hq⟩:=key m fr S hJ
 refine W_ex.2 ⟨ex,f1,S1,?_,hq⟩
 simp only [execL]
 exact (lim_iff (fun n m hm=>iter_mono (fun _ _=>LeO.refl _) n m hm fr S) _).2 ⟨n,he⟩
theorem W_mono {c:C} {Q Q':Ex→List D→Store→Prop} (h:W cf c fr S Q) (hq:∀ ex fr S,Q ex fr S→Q' ex fr S):W cf c fr S Q':=by
 obtain ⟨ex,f1,S1,he,h⟩:=W_ex.1 h
 exact W_ex.2 ⟨ex,f1,S1,he,hq _ _ _ h⟩
def Fin (f:Fn) (Post:D→Store→Prop):Ex→List D→Store→Prop
 | .exit _,_,_=>False
 | _,fr,S=>match resL fr S f.res with
  | some l=>Post (resD l) S
  | none=>False
end
section
variable {dp:Nat→Option Fn} {S S':Store}
theorem call_W {g:Nat} {f:Fn} {args:List D} {Post:D→Store→Prop} (hg:dp g=some f) (hn:args.length=f.np∧f.np≤f.nt)
  (h:W (call dp) f.body (frame0 f args) S (Fin f Post)):∃ r S',call dp g args S=some (r,S')∧Post r S':=by
 obtain ⟨ex,f1,S1,he,hq⟩:=W_ex.1 h
 rw [call_eq]
 simp only [hg,hn,and_self,if_true,he]
 cases ex with
 | exit id=>exact hq.elim
 | normal=>
  simp only [Fin] at hq
  simp only [finish]
  cases hr:resL f1 S1 f.res with
  | none=>simp [hr] at hq
  | some l=>rw [hr] at hq;exact ⟨_,_,rfl,hq⟩
 | ret=>
  simp only [Fin] at hq
  simp only [finish]
  cases hr:resL f1 S1 f.res with
  | none=>simp [hr] at hq
  | some l=>rw [hr] at hq;exact ⟨_,_,rfl,hq⟩
theorem iso_W {g:Nat} {f:Fn} {args:List D} {r:D} (hg:dp g=some f) (hn:args.length=f.np∧f.np≤f.nt) (ha:noRefL (stripL args)=true) (hr:noRef r=true)
  (h:W (call dp) f.body (frame0 f (stripL args)) [] (Fin f fun d _=>stripT d=r)):isoCall (call dp) g args=some r:=by
 obtain ⟨d,S',h1,h2⟩:=call_W (args:=stripL args) hg (by
  refine ⟨?_,hn.2⟩
  rw [←hn.1]
  clear hn ha h
  induction args with
  | nil=>rfl
  | cons x l ih=>simp [stripL,ih]) h
 simp only [isoCall,ha,if_true,h1,h2,hr]
end
end Go.Proofs.YtjlmeikcfdanmaaGreatDoor.DE

namespace Go.Proofs.YtjlmeikcfdanmaaGreatDoor.DE
open Go
def OX {α:Type} (o:Option α) (K:α→Prop):Prop:=match o with
 | some x=>K x
 | none=>False
@[congr] theorem OX_congr {α:Type} {o o':Option α} {K:α→Prop} (h:o=o'):OX o K=OX o' K:=by rw [h]
@[simp] theorem OX_some {α:Type} (x:α) (K:α→Prop):OX (some x) K=K x:=(rfl)
def nilckD:D→Option D
 | .bx i o=>some (.bx i o)
 | .el c o=>some (.el c o)
 | .fn g c=>some (.fn g c)
 | _=>none
def pickD (c a b:D):Option D:=match c with
 | .b x=>some (if x then a else b)
 | _=>none
def convD (k:IntKind):D→Option D
 | .i _ n=>some (.i k (k.wrap n))
 | _=>none
def faD (o:Nat):D→Option D
 | .bx id p=>some (.bx id (p+o))
 | .el cs p=>some (.el cs (p+o))
 | _=>none
def fldD (o k:Nat) (g:Bool):D→Option D
 | .agg cs=>rdK cs o k g
 | _=>none
def iaaD (n k:Nat) (x i:D):Option D:=match x,i with
 | .bx id o,.i _ m=>if 0≤m∧m<n then some (.bx id (o+m.toNat * k)) else none
 | _,_=>none
def ixsD (x i:D):Option D:=match x,i with
 | .s l,.i _ m=>if 0≤m then (l[m.toNat]?).map fun c=>.i .u8 c.toNat else none
 | _,_=>none
def okD (ok:Bool) (z:D):Option D→D
 | some v=>if ok then .tup [v,.b true] else v
 | none=>if ok then .tup [z,.b false] else z
def lkD' (kk:KK) (ok:Bool) (z:D) (S:Store) (m key:D):Option D:=if isKey kk key then
  (match m with
  | .nilm=>some (okD ok z none)
  | .mp id=>match sget S id with
   | some (.map es)=>(lkD kk key es).map (okD ok z)
   | _=>none
  | _=>none) else none
def extD (x:D) (j:Nat):Option D:=match x with
 | .tup cs=>cs[j]?
 | _=>none
def lenD (str:Bool) (x:D):Option D:=match str,x with
 | false,.sl _ _ xs _=>some (.i .i64 xs.length)
 | false,.ar _ _ _ n=>some (.i .i64 n)
 | true,.s l=>some (.i .i64 l.length)
 | _,_=>none
def mxD (x y:D):Option D:=match x,y with
 | .i k a,.i k' b=>if k=k' then some (.i k (if b > a then b else a)) else none
 | _,_=>none
def mnD (x y:D):Option D:=match x,y with
 | .i k a,.i k' b=>if k=k' then some (.i k (if b<a then b else a)) else none
 | _,_=>none
def cmpsD (x y:D):Option D:=match x,y with
 | .s a,.s b=>some (.i .i64 (if Op.bytesLess a b then -1 else if a == b then 0 else 1))
 | _,_=>none
def avP (fr:List D):List (Nat × Nat × Bool × A)→List (Nat × Nat × Bool × D)
 | []=>[]
 | (o,k,g,x)::l=>(o,k,g,av fr x)::avP fr l
def bldV (z:List D):List (Nat × Nat × Bool × D)→Option (List D)
 | []=>some z
 | (o,k,g,x)::ps=>match cellsK k g x with
  | some cs=>if o+k≤z.length then bldV (splice z o cs) ps else none
  | none=>none
def cellsV (k:Nat) (g:Bool):List D→Option (List (List D))
 | []=>some []
 | x::l=>match cellsK k g x,cellsV k g l with
  | some cs,some r=>some (cs::r)
  | _,_=>none
def muD' (kk:KK) (S:Store) (m key v:D):Option Store:=if isKey kk key then
  (match m with
  | .mp id=>match sget S id with
   | some (.map es)=>(muD kk key v es).map fun es'=>sset S id (.map es')
   | _=>none
  | _=>none) else none
def clrD (k:Nat) (z:List D) (S:Store) (x:D):Option Store:=match x with
 | .ar k' id o n=>if k'=k∧z.length=k then (match sget S id with
  | some (.box cs)=>if o+n * k≤cs.length then some (sset S id (.box (splice cs o (List.replicate n z).flatten))) else none
  | _=>none) else none
 | .sl _ _ [] _=>some S
 | _=>none
def fnD:D→Option (Nat × List D)
 | .fn g cs=>some (g,cs)
 | _=>none
def mkslV (k:Nat) (arr:Bool) (z:List D) (S:Store) (n:D):Option (D × Store):=match n with
 | .i _ m=>if 0≤m∧m≤maxLenD then
   (if arr then some (.ar k S.length 0 m.toNat,.box (List.replicate m.toNat z).flatten::S)
   else (if m=0 then some (.sl k false [] .cap0,S) else some (.sl k false (List.replicate m.toNat z) (.tok S.length),.tok true::S))) else none
 | _=>none
def bslO (k:Nat) (l:List (List D)) (S:Store):D × Store:=if l.isEmpty then (.sl k false [] .cap0,S) else (.sl k false l (.tok S.length),.tok true::S)
def mentV (kk:KK) (z:D) (S:Store) (m key:D):Option (D × Store):=if isKey kk key then
  (match m with
  | .mp id=>match sget S id with
   | some (.map es)=>match posD kk key es 0 with
    | some (some j)=>match es[j]? with
     | some e=>some (.tup [e.2,.i .i64 j],sset S id (.map (putD key j es)))
     | none=>none
    | some none=>some (.tup [z,.i .i64 es.length],sset S id (.map (es++[(key,z)])))
    | none=>none
   | _=>none
  | _=>none) else none
def estV (S:Store) (m j v:D):Option Store:=match m,j with
 | .mp id,.i _ n=>match sget S id with
  | some (.map es)=>if 0≤n∧n<es.length then some (sset S id (.map (valD v n.toNat es))) else none
  | _=>none
 | _,_=>none
def isV:R→Bool
 | .alloc _=>false
 | .box _ _ _=>false
 | .bsl _ _ own _=>!own
 | .st _ _ _ _=>false
 | .mkmap=>false
 | .mksl _ _ _ _=>false
 | .mu _ _ _ _=>false
 | .ment _ _ _ _=>false
 | .est _ _ _=>false
 | .app _ _ _ _=>false
 | .clr _ _ _=>false
 | .call _ iso _=>iso
 | .calld _ iso _=>iso
 | _=>true
section
variable (cf:CallF) (fr:List D) (S:Store)
def rV:R→Option D
 | .mv x=>some (av fr x)
 | .nilck x=>nilckD (av fr x)
 | .pick c a b=>pickD (av fr c) (av fr a) (av fr b)
 | .bld z ps=>(bldV z (avP fr ps)).map .agg
 | .bsl k g _ xs=>(cellsV k g (avs fr xs)).map fun l=>.sl k false l .ro
 | .ld k g a=>ldD S k g (av fr a)
 | .bin op q x y=>binD op q (av fr x) (av fr y)
 | .un op x=>unD op (av fr x)
 | .conv k x=>convD k (av fr x)
 | .mkfn g cs=>some (.fn g (avs fr cs))
 | .slc k x lo hi=>slcD k (av fr x) (avo fr lo) (avo fr hi)
 | .slcs x lo hi=>slcsD (av fr x) (avo fr lo) (avo fr hi)
 | .fa o x=>faD o (av fr x)
 | .fld o k g x=>fldD o k g (av fr x)
 | .ia k x i=>iaD k (av fr x) (av fr i)
 | .iaa n k x i=>iaaD n k (av fr x) (av fr i)
 | .ixs x i=>ixsD (av fr x) (av fr i)
 | .lk kk ok z m key=>lkD' kk ok z S (av fr m) (av fr key)
 | .ext x j=>extD (av fr x) j
 | .len str x=>lenD str (av fr x)
 | .mx x y=>mxD (av fr x) (av fr y)
 | .mn x y=>mnD (av fr x) (av fr y)
 | .cmps x y=>cmpsD (av fr x) (av fr y)
 | .call g _ args=>isoCall cf g (avs fr args)
 | .calld f _ args=>match fnD (av fr f) with
  | some p=>isoCall cf p.1 (avs fr args++p.2)
  | none=>none
 | _=>none
def wpR:R→(D→Store→Prop)→Prop
 | .mv x,K=>K (av fr x) S
 | .mkfn g cs,K=>K (.fn g (avs fr cs)) S
 | .alloc z,K=>K (.bx S.length 0) (.box z::S)
 | .mkmap,K=>K (.mp S.length) (.map []::S)
 | .box k g x,K=>OX (cellsK k g (av fr x)) fun cs=>K (.bx S.length 0) (.box cs::S)
 | .bld z ps,K=>OX (bldV z (avP fr ps)) fun cs=>K (.agg cs) S
 | .bsl k g own xs,K=>match own with
  | false=>OX (cellsV k g (avs fr xs)) fun l=>K (.sl k false l .ro) S
  | true=>OX (cellsV k g (avs fr xs)) fun l=>K (bslO k l S).1 (bslO k l S).2
 | .st k g a v,K=>OX (stD S k g (av fr a) (av fr v)) fun S'=>K (.tup []) S'
 | .mksl k arr z n,K=>OX (mkslV k arr z S (av fr n)) fun p=>K p.1 p.2
 | .mu kk m key v,K=>OX (muD' kk S (av fr m) (av fr key) (av fr v)) fun S'=>K (.tup []) S'
 | .app k arr x y,K=>OX (appD k arr (av fr x) (av fr y) S) fun p=>K p.1 p.2
 | .clr k z x,K=>OX (clrD k z S (av fr x)) fun S'=>K (.tup []) S'
 | .call g iso args,K=>match iso with
  | true=>OX (isoCall cf g (avs fr args)) fun d=>K d S
  | false=>OX (cf g (avs fr args) S) fun p=>K p.1 p.2
 | .calld f iso args,K=>match iso with
  | true=>OX (fnD (av fr f)) fun q=>OX (isoCall cf q.1 (avs fr args++q.2)) fun d=>K d S
  | false=>OX (fnD (av fr f)) fun q=>OX (cf q.1 (avs fr args++q.2) S) fun p=>K p.1 p.2
 | .ment kk z m key,K=>OX (mentV kk z S (av fr m) (av fr key)) fun p=>K p.1 p.2
 | .est m j v,K=>OX (estV S (av fr m) (av fr j) (av fr v)) fun S'=>K (.tup []) S'
 | r,K=>OX (rV cf fr S r) fun d=>K d S
end
def al (z:List D) (S:Store) (K:D→Store→Prop):Prop:=K (.bx S.length 0) (.box z::S)
def mm (S:Store) (K:D→Store→Prop):Prop:=K (.mp S.length) (.map []::S)
def jn {α:Type} (K:α) (X:α→Prop):Prop:=X K
def mkf (n:Nat):List (Nat × D)→List D
 | []=>List.replicate n .top
 | (i,v)::l=>fset (mkf n l) i v
def gsel (d:D) (w:Bool) (o:Option D):Option D:=match d with
 | .b x=>if x=w then o else some (.tup [])
 | .tup []=>some (.tup [])
 | _=>none
def gselS (d:D) (w:Bool) (S:Store) (o:Option (D × Store)):Option (D × Store):=match d with
 | .b x=>if x=w then o else some (.tup [],S)
 | .tup []=>some (.tup [],S)
 | _=>none
@[simp] theorem gsel_tt (o:Option D):gsel (.b true) true o=o:=(rfl)
@[simp] theorem gsel_ff (o:Option D):gsel (.b false) false o=o:=(rfl)
@[simp] theorem gsel_tf (o:Option D):gsel (.b true) false o=some (.tup []):=(rfl)
@[simp] theorem gsel_ft (o:Option D):gsel (.b false) true o=some (.tup []):=(rfl)
@[simp] theorem gsel_skip (w:Bool) (o:Option D):gsel (.tup []) w o=some (.tup []):=(rfl)
@[simp] theorem gselS_tt (S:Store) (o:Option (D × Store)):gselS (.b true) true S o=o:=(rfl)
@[simp] theorem gselS_ff (S:Store) (o:Option (D × Store)):gselS (.b false) false S o=o:=(rfl)
@[simp] theorem gselS_tf (S:Store) (o:Option (D × Store)):gselS (.b true) false S o=some (.tup [],S):=(rfl)
@[simp] theorem gselS_ft (S:Store) (o:Option (D × Store)):gselS (.b false) true S o=some (.tup [],S):=(rfl)
@[simp] theorem gselS_skip (w:Bool) (S:Store) (o:Option (D × Store)):gselS (.tup []) w S o=some (.tup [],S):=(rfl)
def setF:List D→Nat→D→(List D→Prop)→Prop
 | [],_,_,K=>K []
 | _::l,0,v,K=>K (v::l)
 | d::l,n+1,v,K=>setF l n v fun l'=>K (d::l')
def setO (fr:List D) (dst:Option Nat) (d:D) (K:List D→Prop):Prop:=match dst with
 | none=>K fr
 | some t=>setF fr t d K
def killF:List D→List Nat→(List D→Prop)→Prop
 | fr,[],K=>K fr
 | fr,t::l,K=>setF fr t .top fun fr'=>killF fr' l K
def frc:List D→(List D→Prop)→Prop
 | [],K=>K []
 | d::l,K=>frc l fun l'=>K (d::l')
theorem setF_eq:∀ (fr:List D) (t:Nat) (d:D) (K:List D→Prop),setF fr t d K=K (fset fr t d)
 | [],_,_,_=>rfl
 | _::_,0,_,_=>rfl
 | _::l,n+1,v,K=>by simp only [setF,fset];exact setF_eq l n v _
theorem setO_eq (fr:List D) (dst:Option Nat) (d:D) (K:List D→Prop):setO fr dst d K=K (fsetO fr dst d):=by
 cases dst with
 | none=>rfl
 | some t=>exact setF_eq fr t d K
theorem killF_eq:∀ (l:List Nat) (fr:List D) (K:List D→Prop),killF fr l K=K (fkill fr l)
 | [],_,_=>rfl
 | t::l,fr,K=>by simp only [killF,setF_eq,fkill];exact killF_eq l _ K
theorem frc_eq:∀ (fr:List D) (K:List D→Prop),frc fr K=K fr
 | [],_=>rfl
 | d::l,K=>by simp only [frc];exact frc_eq l _
def wpI (cf:CallF):List I→List D→Store→(List D→Store→Prop)→Prop
 | [],fr,S,Q=>Q fr S
 | .op dst none r::is,fr,S,Q=>wpR cf fr S r fun d S'=>setO fr dst d fun fr'=>wpI cf is fr' S' Q
 | .op dst (some (t,w)) r::is,fr,S,Q=>match isV r with
  | true=>OX (gsel (fget fr t) w (rV cf fr S r)) fun d=>setO fr dst d fun fr'=>wpI cf is fr' S Q
  | false=>OX (gselS (fget fr t) w S (evR cf fr S r)) fun p=>setO fr dst p.1 fun fr'=>wpI cf is fr' p.2 Q
 | .fz t::is,fr,S,Q=>OX (fzD (fget fr t) S) fun p=>setF fr t p.1 fun fr'=>wpI cf is fr' p.2 Q
 | .ck t r::is,fr,S,Q=>match isV r with
  | true=>OX (rV cf fr S r) fun d=>deq d (fget fr t)=true∧wpI cf is fr S Q
  | false=>OX (evR cf fr S r) fun p=>deq p.1 (fget fr t)=true∧wpI cf is fr S Q
def wp (cf:CallF):C→List D→Store→(Ex→List D→Store→Prop)→Prop
 | .skip,fr,S,Q=>Q .normal fr S
 | .reg is kl,fr,S,Q=>wpI cf is fr S fun fr' S'=>killF fr' kl fun fr2=>Q .normal fr2 S'
 | .dreg is kl,fr,S,Q=>wpI cf (snds is) fr S fun fr' S'=>killF fr' kl fun fr2=>Q .normal fr2 S'
 | .seq a b,fr,S,Q=>wp cf a fr S (Qseq (fun fr' S'=>wp cf b fr' S' Q) Q)
 | .cond c a b,fr,S,Q=>WB (av fr c) (wp cf a fr S Q) (wp cf b fr S Q)
 | .blk id a,fr,S,Q=>wp cf a fr S (Qblk id Q)
 | .loop kl a,fr,S,Q=>W cf (.loop kl a) fr S Q
 | .exit id,fr,S,Q=>Q (.exit id) fr S
 | .ret,fr,S,Q=>Q .ret fr S
 | .bad,_,_,_=>False
section
variable {cf:CallF} {fr fr':List D} {S S':Store}
theorem bldV_eq:∀ (ps:List (Nat × Nat × Bool × A)) (z:List D),bldV z (avP fr ps)=bldD fr z ps
 | [],_=>rfl
 | (o,k,g,x)::ps,z=>by
  simp only [avP,bldV,bldD]
  cases cellsK k g (av fr x) with
  | none=>rfl
  | some cs=>
   simp only
   split
   ·exact bldV_eq ps _
   ·rfl
theorem cellsV_eq (k:Nat) (g:Bool):∀ (xs:List A),cellsV k g (avs fr xs)=cellsAll fr k g xs
 | []=>rfl
 | x::xs=>by
  simp only [avs,cellsV,cellsAll,cellsV_eq k g xs]
  cases cellsK k g (av fr x) <;> cases cellsAll fr k g xs <;> rfl
theorem rV_eq {r:R} (h:isV r=true):evR cf fr S r=(rV cf fr S r).map fun d=>(d,S):=by
 cases r <;> simp only [isV] at h <;> (try (cases h;done)) <;> simp only [evR,rV]
 case mv x=>rfl
 case nilck x=>cases av fr x <;> rfl
 case pick c a b=>
  cases av fr c <;> rfl
 case bld z ps=>rw [bldV_eq];cases bldD fr z ps <;> rfl
 case bsl k g own xs=>
  rw [cellsV_eq]
  have:own=false:=by simpa using h
  subst this
  cases cellsAll fr k g xs <;> rfl
 case conv k x=>cases av fr x <;> rfl
 case mkfn g cs=>rfl
 case fa o x=>cases av fr x <;> rfl
 case fld o k g x=>cases av fr x <;> rfl
 case iaa n k x i=>
  cases av fr x <;> try rfl
  cases av fr i <;> try rfl
  simp only [iaaD]
  split <;> rfl
 case ixs x i=>
  cases av fr x <;> try rfl
  cases av fr i <;> try rfl
  rename_i l k m
  simp only [ixsD]
  split
  ·cases l[m.toNat]? <;> rfl
  ·rfl
 case lk kk ok z m key=>
  simp only [lkD']
  split
  ·cases av fr m <;> try rfl
   rename_i id
   simp only
   cases sget S id with
   | none=>rfl
   | some e=>
    cases e <;> try rfl
    rename_i es
    simp only
    cases lkD kk (av fr key) es with
    | none=>rfl
    | some r=>cases r <;> rfl
  ·rfl
 case ext x j=>cases av fr x <;> rfl
 case len str x=>cases str <;> cases av fr x <;> rfl
 case mx x y=>
  cases av fr x <;> try rfl
  cases av fr y <;> try rfl
  simp only [mxD]
  split <;> rfl
 case mn x y=>
  cases av fr x <;> try rfl
  cases av fr y <;> try rfl
  simp only [mnD]
  split <;> rfl
 case call g iso args=>subst h;rfl
 case calld f iso args=>subst h;cases av fr f <;> rfl
 case cmps x y=>
  cases av fr x <;> try rfl
  cases av fr y <;> rfl
theorem OX_map {α β:Type} (o:Option α) (f:α→β) (K:β→Prop):OX (o.map f) K=OX o fun x=>K (f x):=by cases o <;> rfl
theorem wpR_eq (r:R) (K:D→Store→Prop):wpR cf fr S r K=OX (evR cf fr S r) fun p=>K p.1 p.2:=by
 have v:∀ r,isV r=true→(OX (rV cf fr S r) fun d=>K d S)=OX (evR cf fr S r) fun p=>K p.1 p.2:=by
  intro r h
  rw [rV_eq h,OX_map]
 cases r <;> try exact v _ rfl
 case mv x=>rfl
 case mkfn g cs=>rfl
 case alloc z=>rfl
 case mkmap=>rfl
 case box k g x=>simp only [wpR,evR,OX_map]
 case bld z ps=>rw [←v _ rfl];simp only [wpR,rV,OX_map]
 case bsl k g own xs=>
  cases own with
  | false=>rw [←v _ rfl];simp only [wpR,rV,OX_map]
  | true=>
   simp only [wpR,evR,cellsV_eq,OX_map,if_true]
   rfl
 case st k g a x=>simp only [wpR,evR,OX_map]
 case mksl k arr z n=>
  simp only [wpR,evR]
  cases av fr n <;> rfl
 case mu kk m key x=>
  simp only [wpR,evR,muD']
  split
  ·cases av fr m <;> try rfl
   rename_i id
   simp only
   cases sget S id with
   | none=>rfl
   | some e=>
    cases e <;> try rfl
    simp only [OX_map]
  ·rfl
 case ment kk z m key=>rfl
 case est m j x=>
  simp only [wpR,evR,estV]
  cases av fr m <;> try rfl
  cases av fr j <;> try rfl
  rename_i id k n
  simp only
  cases sget S id with
  | none=>rfl
  | some e=>
   cases e <;> try rfl
   simp only
   split <;> rfl
 case app k arr x y=>rfl
 case clr k z x=>
  simp only [wpR,evR,clrD]
  cases av fr x <;> try rfl
  ·rename_i k' nl xs ow
   cases xs <;> rfl
  ·rename_i k' id o n
   simp only
   split
   ·cases sget S id with
    | none=>rfl
    | some e=>
     cases e <;> try rfl
     simp only
     split <;> rfl
   ·rfl
 case call g iso args=>
  cases iso with
  | true=>rw [←v _ rfl];rfl
  | false=>rfl
 case calld f iso args=>
  cases iso with
  | true=>
   rw [←v _ rfl]
   simp only [wpR,rV]
   cases fnD (av fr f) <;> rfl
  | false=>
   simp only [wpR,evR,callR]
   cases av fr f <;> rfl
theorem wpI_eq (Q:List D→Store→Prop):∀ (is:List I) (fr:List D) (S:Store),wpI cf is fr S Q=WI cf is fr S Q
 | [],_,_=>rfl
 | .op dst none r::is,fr,S=>by
  rw [WI_op]
  simp only [wpI,wpR_eq,setO_eq]
  cases evR cf fr S r with
  | none=>rfl
  | some p=>exact wpI_eq Q is _ _
 | .op dst (some (t,w)) r::is,fr,S=>by
  have e:wpI cf (.op dst (some (t,w)) r::is) fr S Q=OX (gselS (fget fr t) w S (evR cf fr S r)) fun p=>wpI cf is (fsetO fr dst p.1) p.2 Q:=by
   simp only [wpI,setO_eq]
   split
   ·rename_i h
    rw [rV_eq h]
    cases hd:fget fr t <;> try rfl
    ·simp only [gsel,gselS]
     split
     ·rw [OX_map]
     ·rfl
    ·rename_i l
     cases l <;> rfl
   ·rfl
  rw [e,WI_gd]
  generalize fget fr t=d
  cases d <;> try rfl
  ·rename_i x
   simp only [gselS,WG]
   split
   ·cases evR cf fr S r with
    | none=>rfl
    | some p=>exact wpI_eq Q is _ _
   ·exact wpI_eq Q is _ _
  ·rename_i l
   cases l with
   | nil=>exact wpI_eq Q is _ _
   | cons _ _=>rfl
 | .fz t::is,fr,S=>by
  rw [WI_fz]
  simp only [wpI,setF_eq]
  cases fzD (fget fr t) S with
  | none=>rfl
  | some p=>exact wpI_eq Q is _ _
 | .ck t r::is,fr,S=>by
  have e:wpI cf (.ck t r::is) fr S Q=OX (evR cf fr S r) fun p=>deq p.1 (fget fr t)=true∧wpI cf is fr S Q:=by
   simp only [wpI]
   split
   ·rename_i h
    rw [rV_eq h,OX_map]
   ·rfl
  rw [e]
  simp only [WI,evI]
  cases evR cf fr S r with
  | none=>rfl
  | some p=>
   simp only [OX]
   rw [wpI_eq Q is]
   by_cases h:deq p.1 (fget fr t)=true
   ·simp [h]
   ·have:deq p.1 (fget fr t)=false:=by simpa using h
    simp [this]
theorem wp_W:∀ (c:C) (fr:List D) (S:Store) (Q:Ex→List D→Store→Prop),wp cf c fr S Q=W cf c fr S Q
 | .skip,fr,S,Q=>by rw [W_skip];rfl
 | .reg is kl,fr,S,Q=>by rw [W_reg,←wpI_eq];simp only [wp,killF_eq]
 | .dreg is kl,fr,S,Q=>by rw [W_dreg,propext (WD_WI _ is fr S),←wpI_eq];simp only [wp,killF_eq]
 | .seq a b,fr,S,Q=>by
  rw [W_seq,←wp_W a]
  have:(fun fr S=>W cf b fr S Q)=fun fr S=>wp cf b fr S Q:=by funext fr S;rw [wp_W b]
  rw [this];rfl
 | .cond c a b,fr,S,Q=>by rw [W_cond,←wp_W a,←wp_W b];rfl
 | .blk id a,fr,S,Q=>by rw [W_blk,←wp_W a];rfl
 | .loop kl a,fr,S,Q=>rfl
 | .exit id,fr,S,Q=>by rw [W_exit];rfl
 | .ret,fr,S,Q=>by rw [W_ret];rfl
 | .bad,fr,S,Q=>by simp [wp,W,execL]
end
end Go.Proofs.YtjlmeikcfdanmaaGreatDoor.DE

namespace Go.Proofs.YtjlmeikcfdanmaaGreatDoor.DE
open Go
def QS (cf:CallF) (b:C) (Q:Ex→List D→Store→Prop):Ex→List D→Store→Prop:=Qseq (fun fr S=>wp cf b fr S Q) Q
@[congr] theorem QS_congr {cf:CallF} {b:C} {Q:Ex→List D→Store→Prop} {ex ex':Ex} {fr fr':List D} {S S':Store} (e:ex=ex') (h:fr=fr') (k:S=S'):QS cf b Q ex fr S=QS cf b Q ex' fr' S':=by rw [e,h,k]
@[simp] theorem QS_normal (cf:CallF) (b:C) (Q:Ex→List D→Store→Prop) (fr:List D) (S:Store):QS cf b Q .normal fr S=wp cf b fr S Q:=(rfl)
@[simp] theorem QS_exit (cf:CallF) (b:C) (Q:Ex→List D→Store→Prop) (id:Nat) (fr:List D) (S:Store):QS cf b Q (.exit id) fr S=Q (.exit id) fr S:=(rfl)
@[simp] theorem QS_ret (cf:CallF) (b:C) (Q:Ex→List D→Store→Prop) (fr:List D) (S:Store):QS cf b Q .ret fr S=Q .ret fr S:=(rfl)
def wpS (cf:CallF) (c:C) (fr:List D) (S:Store) (Q:Ex→List D→Store→Prop):Prop:=frc fr fun fr'=>wp cf c fr' S Q
theorem wpS_eq (cf:CallF) (c:C) (fr:List D) (S:Store) (Q:Ex→List D→Store→Prop):wpS cf c fr S Q=wp cf c fr S Q:=frc_eq fr _
theorem wpS_of {cf:CallF} {c:C} {fr:List D} {S:Store} {Q:Ex→List D→Store→Prop} {X:Prop} (h:wpS cf c fr S Q=X):wp cf c fr S Q=X:=(wpS_eq cf c fr S Q).symm.trans h
@[congr] theorem wp_congr {cf:CallF} {c:C} {Q:Ex→List D→Store→Prop} {fr fr':List D} {S S':Store} (h:fr=fr') (k:S=S'):wp cf c fr S Q=wp cf c fr' S' Q:=by rw [h,k]
@[simp] theorem wp_skip (cf:CallF) (Q:Ex→List D→Store→Prop) (fr:List D) (S:Store):wp cf .skip fr S Q=Q .normal fr S:=(rfl)
@[simp] theorem wp_ret (cf:CallF) (Q:Ex→List D→Store→Prop) (fr:List D) (S:Store):wp cf .ret fr S Q=Q .ret fr S:=(rfl)
@[simp] theorem wp_exit (cf:CallF) (Q:Ex→List D→Store→Prop) (id:Nat) (fr:List D) (S:Store):wp cf (.exit id) fr S Q=Q (.exit id) fr S:=(rfl)
attribute [simp] Qseq_normal Qseq_exit Qseq_ret Qblk_normal Qblk_ret Qblk_same Qblk_other
def ldc (S:Store) (k:Nat) (g:Bool):D→Option D
 | .bx id o=>ldD S k g (.bx id o)
 | _=>none
def finR (fr:List D) (S:Store):List Res→(List D→Prop)→Prop
 | [],K=>K []
 | .t n::l,K=>finR fr S l fun m=>K (fget fr n::m)
 | .cell n k g::l,K=>OX (ldc S k g (fget fr n)) fun d=>finR fr S l fun m=>K (d::m)
theorem finR_eq (fr:List D) (S:Store):∀ (l:List Res) (K:List D→Prop),finR fr S l K=match resL fr S l with | some m=>K m | none=>False
 | [],K=>rfl
 | .t n::l,K=>by
  simp only [finR,resL,res1,finR_eq fr S l]
  cases resL fr S l <;> rfl
 | .cell n k g::l,K=>by
  have e:res1 fr S (.cell n k g)=ldc S k g (fget fr n):=by
   simp only [res1]
   cases fget fr n <;> rfl
  simp only [finR,resL,e,finR_eq fr S l]
  cases ldc S k g (fget fr n) <;> cases resL fr S l <;> rfl
def FinK (res:List Res) (Post:D→Store→Prop):Ex→List D→Store→Prop
 | .exit _,_,_=>False
 | _,fr,S=>finR fr S res fun l=>Post (resD l) S
@[congr] theorem FinK_congr {res:List Res} {Post:D→Store→Prop} {ex ex':Ex} {fr fr':List D} {S S':Store} (e:ex=ex') (h:fr=fr') (k:S=S'):FinK res Post ex fr S=FinK res Post ex' fr' S':=by rw [e,h,k]
@[simp] theorem FinK_ret1 (n:Nat) (Post:D→Store→Prop) (fr:List D) (S:Store):FinK [.t n] Post .ret fr S=Post (fget fr n) S:=(rfl)
@[simp] theorem FinK_ret2 (n m:Nat) (Post:D→Store→Prop) (fr:List D) (S:Store):FinK [.t n,.t m] Post .ret fr S=Post (.tup [fget fr n,fget fr m]) S:=(rfl)
@[simp] theorem FinK_normal (res:List Res) (Post:D→Store→Prop) (fr:List D) (S:Store):FinK res Post .normal fr S=FinK res Post .ret fr S:=(rfl)
@[simp] theorem FinK_cell1 (n k:Nat) (g:Bool) (Post:D→Store→Prop) (fr:List D) (S:Store):FinK [.cell n k g] Post .ret fr S=OX (ldc S k g (fget fr n)) fun d=>Post d S:=(rfl)
theorem FinK_Fin (f:Fn) (Post:D→Store→Prop) (ex:Ex) (fr:List D) (S:Store) (h:FinK f.res Post ex fr S):Fin f Post ex fr S:=by
 cases ex with
 | exit id=>exact h
 | normal=>simp only [FinK,finR_eq] at h;exact h
 | ret=>simp only [FinK,finR_eq] at h;exact h
def bxx (k:Nat) (g:Bool) (x:D) (S:Store) (K:D→Store→Prop):Prop:=OX (cellsK k g x) fun cs=>K (.bx S.length 0) (.box cs::S)
theorem stripL_len:∀ l:List D,(stripL l).length=l.length
 | []=>rfl
 | _::l=>by simp [stripL,stripL_len l]
section
variable {dp:Nat→Option Fn}
theorem call_s {g:Nat} {f:Fn} {args:List D} {S:Store} {Post:D→Store→Prop} (hg:dp g=some f) (hn:args.length=f.np∧f.np≤f.nt)
  (h:wp (call dp) f.body (frame0 f args) S (FinK f.res Post)):∃ r S',call dp g args S=some (r,S')∧Post r S':=by
 rw [wp_W] at h
 exact call_W hg hn (W_mono h (FinK_Fin f Post))
theorem iso_s {g:Nat} {f:Fn} {args:List D} {r:D} (hg:dp g=some f) (hn:args.length=f.np∧f.np≤f.nt) (ha:noRefL (stripL args)=true) (hr:noRef r=true)
  (h:wp (call dp) f.body (frame0 f (stripL args)) [] (FinK f.res fun d _=>stripT d=r)):isoCall (call dp) g args=some r:=by
 rw [wp_W] at h
 exact iso_W hg hn ha hr (W_mono h (FinK_Fin f _))
theorem iso_x {g:Nat} {f:Fn} {args:List D} {Post:D→Prop} (hg:dp g=some f) (hn:args.length=f.np∧f.np≤f.nt) (ha:noRefL (stripL args)=true) (hr:∀ r,Post r→noRef r=true)
  (h:wp (call dp) f.body (frame0 f (stripL args)) [] (FinK f.res fun d _=>Post (stripT d))):∃ r,isoCall (call dp) g args=some r∧Post r:=by
 obtain ⟨d,S',e,hp⟩:=call_s (Post:=fun d _=>Post (stripT d)) hg (by rw [stripL_len];exact hn) h
 exact ⟨_,by simp only [isoCall,ha,if_true,e,hr _ hp],hp⟩
end
theorem fset_len:∀ (l:List D) (i:Nat) (v:D),(fset l i v).length=l.length
 | [],_,_=>rfl
 | _::_,0,_=>rfl
 | _::l,i+1,v=>by simp [fset,fset_len l i v]
theorem mkf_len (n:Nat):∀ l,(mkf n l).length=n
 | []=>by simp [mkf]
 | (i,v)::l=>by rw [mkf,fset_len,mkf_len n l]
theorem fget_fset_same:∀ (l:List D) (i:Nat) (v:D),i<l.length→fget (fset l i v) i=v
 | [],_,_,h=>by simp at h
 | _::_,0,_,_=>rfl
 | _::l,i+1,v,h=>by simp only [fset,fget];exact fget_fset_same l i v (by simpa using h)
theorem fget_fset_ne:∀ (l:List D) (i j:Nat) (v:D),i≠j→fget (fset l i v) j=fget l j
 | [],_,_,_,_=>rfl
 | _::_,0,0,_,h=>absurd rfl h
 | _::_,0,_+1,_,_=>rfl
 | _::_,_+1,0,_,_=>rfl
 | _::l,i+1,j+1,v,h=>by simp only [fset,fget];exact fget_fset_ne l i j v (by omega)
@[simp] theorem fget_mkf_hit (n i:Nat) (v:D) (l:List (Nat × D)) (h:i<n):fget (mkf n ((i,v)::l)) i=v:=by
 rw [mkf];exact fget_fset_same _ _ _ (by rw [mkf_len];exact h)
@[simp] theorem fget_mkf_miss (n i j:Nat) (v:D) (l:List (Nat × D)) (h:(i == j)=false):fget (mkf n ((i,v)::l)) j=fget (mkf n l) j:=by
 rw [mkf];exact fget_fset_ne _ _ _ _ (by simpa using h)
@[simp] theorem WB_b (c:Bool) (X Y:Prop):WB (.b c) X Y=if c=true then X else Y:=by cases c <;> rfl
@[congr] theorem jn_congr {α:Type} {K:α} {X:α→Prop}:jn K X=jn K X:=rfl
end Go.Proofs.YtjlmeikcfdanmaaGreatDoor.DE
