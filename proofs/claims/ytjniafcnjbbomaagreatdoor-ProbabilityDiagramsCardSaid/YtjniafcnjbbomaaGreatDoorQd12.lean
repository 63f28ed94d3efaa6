/-
  SEVERAL TEXTS IN ONE (joined by tools/asm3.py of this repository): Gs, Gt, Gu, Gv, Gx, Ff, Ta, Ja, Jb, Jc, Jd, Je, Gy, Gz, Hb, Ea.
-/
import Derived.Test.YtjniafcnjbbomaaGreatDoorQd2
import Derived.Test.YtjniafcnjbbomaaGreatDoorQd5
import Derived.Test.YtjniafcnjbbomaaGreatDoorQd8
import Derived.Test.YtjniafcnjbbomaaGreatDoorQd11
import Derived.KernelRfl
import GoSem.Dispatch
set_option linter.unusedVariables false
set_option linter.unusedSimpArgs false
namespace Go.Proofs.YtjniafcnjbbomaaGreatDoor.DE.V
open Go NL
theorem ia_rows {nl:Bool} {l:List Row} {i:Nat} {r:Row} (h:l[i]? = some r):iaD 2 (eRows nl l) (.i .i64 i)=some (.el (eRow r) 0):=iaD_rows .i64 h
def IsQ (d:D):Prop:=∃ n1 n2 a b,d=eQ n1 n2 a b
theorem Rq.isQ {q:Fq} {d:D} (h:Rq q d):IsQ d:=by obtain ⟨n1,n2,rfl,_⟩:=h;exact ⟨_,_,_,_,rfl⟩
def zeroQ:D:=eQ true true [] []
theorem isQ_zero:IsQ zeroQ:=⟨_,_,_,_,rfl⟩
theorem IsQ.cells {d:D} (h:IsQ d):∃ x y,d = .agg [x,y]∧isCell x=true∧isCell y=true∧strip d=d:=by obtain ⟨n1,n2,a,b,rfl⟩:=h;exact ⟨_,_,rfl,rfl,rfl,rfl⟩
theorem IsQ.noRef {d:D} (h:IsQ d):noRef d=true:=by obtain ⟨n1,n2,a,b,rfl⟩:=h;simp
def QAt (S:Store) (id:Nat) (d:D):Prop:=∃ x y,d = .agg [x,y]∧sget S id=some (.box [x,y])
theorem QAt.ld {S:Store} {id:Nat} {d:D} (h:QAt S id d):ldD S 2 true (.bx id 0)=some d:=by
 obtain ⟨x,y,rfl,h⟩:=h
 rw [ldD_bx,h];rfl
theorem QAt.ldc {S:Store} {id:Nat} {d:D} (h:QAt S id d):ldc S 2 true (.bx id 0)=some d:=h.ld
theorem QAt.grow {S S':Store} {id:Nat} {d:D} (h:QAt S id d) (g:Grow S S'):QAt S' id d:=by
 obtain ⟨x,y,rfl,h⟩:=h
 exact ⟨x,y,rfl,g.get h⟩
theorem QAt.st {S:Store} {id:Nat} {d d':D} (h:QAt S id d) (h':IsQ d'):∃ S',stD S 2 true (.bx id 0) d'=some S'∧QAt S' id d'∧S'.length=S.length∧∀ j,j≠id→sget S' j=sget S j:=by
 obtain ⟨x,y,rfl,h⟩:=h
 obtain ⟨n1,n2,a,b,rfl⟩:=h'
 exact ⟨_,st2q S id x y n1 n2 a b h,⟨_,_,rfl,sget_sset _ (sget_lt h)⟩,sset_len _ _ _,fun j hj=>sget_sset_ne _ hj⟩
theorem QAt.ne {S S':Store} {id j:Nat} {d:D} (h:QAt S j d) (k:∀ i,i≠id→sget S' i=sget S i) (hj:j≠id):QAt S' j d:=by
 obtain ⟨x,y,rfl,h⟩:=h
 exact ⟨x,y,rfl,by rw [k j hj];exact h⟩
theorem QAt.top (S:Store) {d:D} (h:IsQ d):∃ x y,cellsK 2 true d=some [x,y]∧QAt (.box [x,y]::S) S.length d:=by
 obtain ⟨n1,n2,a,b,rfl⟩:=h
 exact ⟨_,_,rfl,_,_,rfl,sget_top _ _⟩
theorem QAt.nil (S:Store):QAt (.box [.sl 1 true [] .ro,.sl 1 true [] .ro]::S) S.length zeroQ:=⟨_,_,rfl,sget_top _ _⟩
def EAt (S:Store) (id:Nat) (e:Int):Prop:=sget S id=some (.box [.i .i64 e])
theorem EAt.ld {S:Store} {id:Nat} {e:Int} (h:EAt S id e):ldD S 1 false (.bx id 0)=some (.i .i64 e):=by rw [ldD_bx,h];rfl
theorem nilck_bx (id:Nat):nilckD (.bx id 0)=some (.bx id 0):=rfl
theorem zero_agg:D.agg [eLims true [] .ro,eLims true [] .ro]=zeroQ:=rfl
structure Keeps (S S':Store) (id:Nat):Prop where
 len:S.length≤S'.length
 get:∀ j,j<S.length→j≠id→sget S' j=sget S j
theorem Grow.keeps {S S':Store} (h:Grow S S') (id:Nat):Keeps S S' id:=by
 refine ⟨?_,?_⟩
 ·obtain ⟨T,rfl⟩:=h;simp
 ·intro j hj _
  obtain ⟨e,he⟩:∃ e,sget S j=some e:=by
   clear h
   induction S with
   | nil=>simp at hj
   | cons x S ih=>
    by_cases hc:j=S.length
    ·exact ⟨x,by simp [hc]⟩
    ·simp only [sget_cons,hc,if_false]
     exact ih (by simp at hj;omega)
  rw [he];exact h.get he
theorem Keeps.trans {S S' S'':Store} {id:Nat} (h:Keeps S S' id) (k:Keeps S' S'' id):Keeps S S'' id:=
 ⟨Nat.le_trans h.len k.len,fun j hj hne=>by rw [k.get j (Nat.lt_of_lt_of_le hj h.len) hne,h.get j hj hne]⟩
theorem Keeps.q {S S':Store} {id j:Nat} {d:D} (h:Keeps S S' id) (k:QAt S j d) (hj:j≠id):QAt S' j d:=by
 obtain ⟨x,y,rfl,k⟩:=k
 exact ⟨x,y,rfl,by rw [h.get j (sget_lt k) hj];exact k⟩
theorem v94 (ide:Nat) (e c:Int) (d:D) (S:Store) (hE:EAt S ide e) (hd:IsQ d) :
  ∃ S',call dp 94 [.bx ide 0,d,.i .i64 c] S=some (if e=0 then d else zeroQ,S')∧EAt S' ide (if e=0 then c else e)∧Keeps S S' ide:=by
 obtain ⟨r,S',e1,rfl,hE',hk⟩:=f94 (.bx ide 0) d (.i .i64 c) S (fun r S'=>r=(if e=0 then d else zeroQ)∧EAt S' ide (if e=0 then c else e)∧Keeps S S' ide) (by
  obtain ⟨x,y,hc,hq⟩:=QAt.top S hd
  have hq2:=QAt.nil (.box [x,y]::S)
  have g1:Grow S (.box [.sl 1 true [] .ro,.sl 1 true [] .ro] :: .box [x,y]::S):=((Grow.refl S).cons _).cons _
  have hE1:EAt (.box [.sl 1 true [] .ro,.sl 1 true [] .ro] :: .box [x,y]::S) ide e:=g1.get hE
  have hq1:=hq.grow ((Grow.refl (.box [x,y]::S)).cons (.box [.sl 1 true [] .ro,.sl 1 true [] .ro]))
  have hide:=sget_lt hE
  generalize hS2:(Ent.box [.sl 1 true [] .ro,.sl 1 true [] .ro] :: .box [x,y]::S)=S2 at *
  have hl2:S2.length=S.length+2:=by rw [←hS2];simp
  have hfa:faD 0 (.bx ide 0)=some (.bx ide 0):=rfl
  have hne:binD .neq .num (.i .i64 e) (.i .i64 0)=some (.b (!decide (e=0))):=by rw [bin_neq]
  simp only [s94,bxx_eq,hc,OX_some,al_eq,nilck_bx,hfa,hS2,hE1.ld,hne]
  by_cases h0:e=0
  ·simp only [h0,decide_true,Bool.not_true,WB_false,OX_some,if_true]
   have hst:stD S2 1 false (.bx ide 0) (.i .i64 c)=some (sset S2 ide (.box [.i .i64 c])):=by
    rw [stD_bx,hE1];rfl
   simp only [hst,OX_some]
   have hq1':QAt (sset S2 ide (.box [.i .i64 c])) S.length d:=hq1.ne (fun j hj=>sget_sset_ne _ hj) (by omega)
   have hq2':QAt (sset S2 ide (.box [.i .i64 c])) (List.length (Ent.box [x,y]::S)) zeroQ:=hq2.ne (fun j hj=>sget_sset_ne _ hj) (by simp;omega)
   obtain ⟨S3,e3,q3,l3,k3⟩:=hq2'.st hd
   simp only [hq1'.ld,OX_some,e3,q3.ldc]
   refine ⟨trivial,?_,?_⟩
   ·show sget S3 ide=_
    rw [k3 ide (by simp;omega)]
    exact sget_sset _ (by omega)
   ·refine ⟨by rw [l3,sset_len];omega,fun j hj hj'=>?_⟩
    rw [k3 j (by simp;omega),sget_sset_ne _ hj']
    exact (g1.keeps ide).get j hj hj'
  ·simp only [h0,decide_false,Bool.not_false,WB_true,bld0,OX_some,zero_agg,if_false]
   obtain ⟨S3,e3,q3,l3,k3⟩:=hq2.st isQ_zero
   simp only [e3,OX_some,q3.ldc]
   refine ⟨trivial,?_,?_⟩
   ·show sget S3 ide=_
    rw [k3 ide (by simp;omega)]
    exact hE1
   ·refine ⟨by rw [l3];omega,fun j hj hj'=>?_⟩
    rw [k3 j (by simp;omega)]
    exact (g1.keeps ide).get j hj hj')
 exact ⟨S',e1,hE',hk⟩
end Go.Proofs.YtjniafcnjbbomaaGreatDoor.DE.V

namespace Go.Proofs.YtjniafcnjbbomaaGreatDoor.DE.V
open Go NL
def St (o:Option Fq) (e:Int) (d:D):Prop:=match o with | some q=>e=0∧Rq q d | none=>e=6∧IsQ d
theorem St.isQ {o:Option Fq} {e:Int} {d:D} (h:St o e d):IsQ d:=by
 cases o with
 | none=>exact h.2
 | some q=>exact h.2.isQ
theorem RT.split {o:Option Fq} {r:D} (h:RT o 6 r):∃ dq e,r = .tup [dq,.i .i64 e]∧St o e dq:=by
 cases o with
 | none=>exact ⟨_,_,h,rfl,isQ_zero⟩
 | some q=>obtain ⟨dq,h,k⟩:=h;exact ⟨dq,0,h,rfl,k⟩
theorem box2 (S:Store) {d:D} (h:IsQ d) (K:D→Store→Prop) (hk:∀ x y,QAt (.box [x,y]::S) S.length d→K (.bx S.length 0) (.box [x,y]::S)):bxx 2 true d S K:=by
 obtain ⟨x,y,hc,hq⟩:=QAt.top S h
 rw [bxx_eq,hc,OX_some]
 exact hk x y hq
theorem fa0 (id:Nat):faD 0 (.bx id 0)=some (.bx id 0):=rfl
theorem neq0 (e:Int):binD .neq .num (.i .i64 e) (.i .i64 0)=some (.b (!decide (e=0))):=by rw [bin_neq]
section
variable (g:Nat) (f:Fq→Fq→Option Fq) (Hg:∀ a b da db,Rq a da→Rq b db→VQ a→VQ b→∃ r,isoCall (call dp) g [da,db]=some r∧RT (f a b) 6 r)
include Hg
theorem v93 (ide:Nat) (a b:Fq) (da db:D) (S:Store) (hE:EAt S ide 0) (ha:Rq a da) (hb:Rq b db) (va:VQ a) (vb:VQ b) :
  ∃ d e S',call dp 93 [.bx ide 0,.fn g [],da,db] S=some (d,S')∧St (f a b) e d∧EAt S' ide e∧Keeps S S' ide:=by
 obtain ⟨r,er,hr⟩:=Hg a b da db ha hb va vb
 obtain ⟨dq,e,rfl,hst⟩:=hr.split
 obtain ⟨d,S',e1,h⟩:=f93 (.bx ide 0) (.fn g []) da db S (fun d S'=>∃ e,St (f a b) e d∧EAt S' ide e∧Keeps S S' ide) (by
  unfold s93
  refine box2 S ha.isQ _ fun x y q1=>?_
  refine box2 _ hb.isQ _ fun u v q2=>?_
  have q3:QAt (.box [.sl 1 true [] .ro,.sl 1 true [] .ro] :: .box [u,v] :: .box [x,y]::S) (S.length+2) zeroQ:=QAt.nil (.box [u,v] :: .box [x,y]::S)
  have g1:Grow S (.box [.sl 1 true [] .ro,.sl 1 true [] .ro] :: .box [u,v] :: .box [x,y]::S):=(((Grow.refl S).cons _).cons _).cons _
  have q1':QAt (.box [.sl 1 true [] .ro,.sl 1 true [] .ro] :: .box [u,v] :: .box [x,y]::S) S.length da:=q1.grow (((Grow.refl _).cons (.box [u,v])).cons (.box [.sl 1 true [] .ro,.sl 1 true [] .ro]))
  have q2':QAt (.box [.sl 1 true [] .ro,.sl 1 true [] .ro] :: .box [u,v] :: .box [x,y]::S) (S.length+1) db:=q2.grow ((Grow.refl _).cons (.box [.sl 1 true [] .ro,.sl 1 true [] .ro]))
  have hE1:EAt (.box [.sl 1 true [] .ro,.sl 1 true [] .ro] :: .box [u,v] :: .box [x,y]::S) ide 0:=g1.get hE
  have hide:=sget_lt hE
  rw [al_eq]
  have l1:List.length (Ent.box [x,y]::S)=S.length+1:=rfl
  have l2:List.length (Ent.box [u,v] :: .box [x,y]::S)=S.length+2:=rfl
  rw [l2,l1]
  generalize (Ent.box [.sl 1 true [] .ro,.sl 1 true [] .ro] :: .box [u,v] :: .box [x,y]::S)=S2 at *
  obtain ⟨S3,e3,hE3,k3⟩:=v94 ide 0 e dq S2 hE1 hst.isQ
  rw [if_pos rfl] at e3 hE3
  have q4:=k3.q q3 (by omega)
  obtain ⟨S4,e4,q5,l4,k4⟩:=q4.st hst.isQ
  simp only [nilck_bx,fa0,hE1.ld,OX_some,neq0,decide_true,Bool.not_true,WB_false,q1'.ld,q2'.ld,fnD_fn,List.cons_append,List.nil_append,er,ext_eq,List.getElem?_cons_zero,List.getElem?_cons_succ,e3,e4,q5.ldc]
  refine ⟨e,hst,?_,?_⟩
  ·show sget S4 ide=_
   rw [k4 ide (by omega)];exact hE3
  ·have h1:=(g1.keeps ide).trans k3
   exact ⟨by rw [l4];exact h1.len,fun j hj hne=>by rw [k4 j (by omega)];exact h1.get j hj hne⟩)
 exact ⟨d,h.choose,S',e1,h.choose_spec⟩
omit Hg in
theorem v93e (ide:Nat) (e:Int) (da db:D) (S:Store) (hE:EAt S ide e) (h0:e≠0) (ha:IsQ da) (hb:IsQ db) :
  ∃ S',call dp 93 [.bx ide 0,.fn g [],da,db] S=some (zeroQ,S')∧EAt S' ide e∧Keeps S S' ide:=by
 obtain ⟨d,S',e1,rfl,h⟩:=f93 (.bx ide 0) (.fn g []) da db S (fun d S'=>d=zeroQ∧EAt S' ide e∧Keeps S S' ide) (by
  unfold s93
  refine box2 S ha _ fun x y q1=>?_
  refine box2 _ hb _ fun u v q2=>?_
  have q3:QAt (.box [.sl 1 true [] .ro,.sl 1 true [] .ro] :: .box [u,v] :: .box [x,y]::S) (S.length+2) zeroQ:=QAt.nil (.box [u,v] :: .box [x,y]::S)
  have g1:Grow S (.box [.sl 1 true [] .ro,.sl 1 true [] .ro] :: .box [u,v] :: .box [x,y]::S):=(((Grow.refl S).cons _).cons _).cons _
  have hE1:EAt (.box [.sl 1 true [] .ro,.sl 1 true [] .ro] :: .box [u,v] :: .box [x,y]::S) ide e:=g1.get hE
  have hide:=sget_lt hE
  rw [al_eq]
  have l2:List.length (Ent.box [u,v] :: .box [x,y]::S)=S.length+2:=rfl
  rw [l2]
  generalize (Ent.box [.sl 1 true [] .ro,.sl 1 true [] .ro] :: .box [u,v] :: .box [x,y]::S)=S2 at *
  obtain ⟨S4,e4,q5,l4,k4⟩:=q3.st isQ_zero
  simp only [nilck_bx,fa0,hE1.ld,OX_some,neq0,h0,decide_false,Bool.not_false,WB_true,bld0,zero_agg,e4,q5.ldc]
  refine ⟨trivial,?_,?_⟩
  ·show sget S4 ide=_
   rw [k4 ide (by omega)];exact hE1
  ·have h1:=g1.keeps ide
   exact ⟨by rw [l4];exact h1.len,fun j hj hne=>by rw [k4 j (by omega)];exact h1.get j hj hne⟩)
 exact ⟨S',e1,h⟩
end
theorem around (m g ide:Nat) (da db d:D) (S:Store) (R:D→Store→Prop) (ha:IsQ da) (hb:IsQ db) (hide:ide<S.length)
  (hb':∀ S1,Grow S S1→∃ d S',call dp m [.bx ide 0,.fn g [],da,db] S1=some (d,S')∧IsQ d∧Keeps S1 S' ide∧(∀ S'',sget S'' ide=sget S' ide→Keeps S S'' ide→R d S'')) :
  (bxx 2 true da S fun x1 S2=>
   bxx 2 true db S2 fun x3 S4=>
   al [.sl 1 true [] .ro,.sl 1 true [] .ro] S4 fun x5 S6=>
   OX (ldD S6 2 true x1) fun x7=>
   OX (ldD S6 2 true x3) fun x8=>
   OX (call dp m [.bx ide 0,(.fn g []),x7,x8] S6) fun p10=>
   OX (stD p10.2 2 true x5 p10.1) fun S12=>
   OX (ldc S12 2 true x5) fun x13=>R x13 S12):=by
 refine box2 S ha _ fun x y q1=>?_
 refine box2 _ hb _ fun u v q2=>?_
 have q3:QAt (.box [.sl 1 true [] .ro,.sl 1 true [] .ro] :: .box [u,v] :: .box [x,y]::S) (S.length+2) zeroQ:=QAt.nil (.box [u,v] :: .box [x,y]::S)
 have g1:Grow S (.box [.sl 1 true [] .ro,.sl 1 true [] .ro] :: .box [u,v] :: .box [x,y]::S):=(((Grow.refl S).cons _).cons _).cons _
 have q1':QAt (.box [.sl 1 true [] .ro,.sl 1 true [] .ro] :: .box [u,v] :: .box [x,y]::S) S.length da:=q1.grow (((Grow.refl _).cons (.box [u,v])).cons (.box [.sl 1 true [] .ro,.sl 1 true [] .ro]))
 have q2':QAt (.box [.sl 1 true [] .ro,.sl 1 true [] .ro] :: .box [u,v] :: .box [x,y]::S) (S.length+1) db:=q2.grow ((Grow.refl _).cons (.box [.sl 1 true [] .ro,.sl 1 true [] .ro]))
 rw [al_eq]
 have l1:List.length (Ent.box [x,y]::S)=S.length+1:=rfl
 have l2:List.length (Ent.box [u,v] :: .box [x,y]::S)=S.length+2:=rfl
 rw [l2,l1]
 generalize (Ent.box [.sl 1 true [] .ro,.sl 1 true [] .ro] :: .box [u,v] :: .box [x,y]::S)=S2 at *
 obtain ⟨d,S3,e3,hq,k3,hR⟩:=hb' S2 g1
 have q4:=k3.q q3 (by omega)
 obtain ⟨S4,e4,q5,l4,k4⟩:=q4.st hq
 simp only [q1'.ld,q2'.ld,OX_some,e3,e4,q5.ldc]
 have h1:=(g1.keeps ide).trans k3
 exact hR S4 (k4 ide (by omega)) ⟨by rw [l4];exact h1.len,fun j hj hne=>by rw [k4 j (by omega)];exact h1.get j hj hne⟩
theorem v40 (ide:Nat) (a b:Fq) (da db:D) (S:Store) (hE:EAt S ide 0) (ha:Rq a da) (hb:Rq b db) (va:VQ a) (vb:VQ b) :
  ∃ d e S',call dp 40 [.bx ide 0,da,db] S=some (d,S')∧St (pmul a b) e d∧EAt S' ide e∧Keeps S S' ide:=by
 obtain ⟨d,S',e1,e,h⟩:=f40 (.bx ide 0) da db S (fun d S'=>∃ e,St (pmul a b) e d∧EAt S' ide e∧Keeps S S' ide) (by
  unfold s40
  refine around 93 29 ide da db zeroQ S _ ha.isQ hb.isQ (sget_lt hE) ?_
  intro S1 hg
  obtain ⟨d,e,S',h1,h2,h3,h4⟩:=v93 29 pmul v29 ide a b da db S1 (hg.get hE) ha hb va vb
  exact ⟨d,S',h1,h2.isQ,h4,fun S'' hs hk=>⟨e,h2,by show sget S'' ide=_;rw [hs];exact h3,hk⟩⟩)
 exact ⟨d,e,S',e1,h⟩
theorem v40e (ide:Nat) (e:Int) (da db:D) (S:Store) (hE:EAt S ide e) (h0:e≠0) (ha:IsQ da) (hb:IsQ db) :
  ∃ S',call dp 40 [.bx ide 0,da,db] S=some (zeroQ,S')∧EAt S' ide e∧Keeps S S' ide:=by
 obtain ⟨d,S',e1,rfl,h⟩:=f40 (.bx ide 0) da db S (fun d S'=>d=zeroQ∧EAt S' ide e∧Keeps S S' ide) (by
  unfold s40
  refine around 93 29 ide da db zeroQ S _ ha hb (sget_lt hE) ?_
  intro S1 hg
  obtain ⟨S',h1,h3,h4⟩:=v93e 29 ide e da db S1 (hg.get hE) h0 ha hb
  exact ⟨zeroQ,S',h1,isQ_zero,h4,fun S'' hs hk=>⟨rfl,by show sget S'' ide=_;rw [hs];exact h3,hk⟩⟩)
 exact ⟨S',e1,h⟩
theorem v42 (ide:Nat) (a b:Fq) (da db:D) (S:Store) (hE:EAt S ide 0) (ha:Rq a da) (hb:Rq b db) (va:VQ a) (vb:VQ b) :
  ∃ d e S',call dp 42 [.bx ide 0,da,db] S=some (d,S')∧St (padd a b) e d∧EAt S' ide e∧Keeps S S' ide:=by
 obtain ⟨d,S',e1,e,h⟩:=f42 (.bx ide 0) da db S (fun d S'=>∃ e,St (padd a b) e d∧EAt S' ide e∧Keeps S S' ide) (by
  unfold s42
  refine around 93 27 ide da db zeroQ S _ ha.isQ hb.isQ (sget_lt hE) ?_
  intro S1 hg
  obtain ⟨d,e,S',h1,h2,h3,h4⟩:=v93 27 padd v27 ide a b da db S1 (hg.get hE) ha hb va vb
  exact ⟨d,S',h1,h2.isQ,h4,fun S'' hs hk=>⟨e,h2,by show sget S'' ide=_;rw [hs];exact h3,hk⟩⟩)
 exact ⟨d,e,S',e1,h⟩
theorem v42e (ide:Nat) (e:Int) (da db:D) (S:Store) (hE:EAt S ide e) (h0:e≠0) (ha:IsQ da) (hb:IsQ db) :
  ∃ S',call dp 42 [.bx ide 0,da,db] S=some (zeroQ,S')∧EAt S' ide e∧Keeps S S' ide:=by
 obtain ⟨d,S',e1,rfl,h⟩:=f42 (.bx ide 0) da db S (fun d S'=>d=zeroQ∧EAt S' ide e∧Keeps S S' ide) (by
  unfold s42
  refine around 93 27 ide da db zeroQ S _ ha hb (sget_lt hE) ?_
  intro S1 hg
  obtain ⟨S',h1,h3,h4⟩:=v93e 27 ide e da db S1 (hg.get hE) h0 ha hb
  exact ⟨zeroQ,S',h1,isQ_zero,h4,fun S'' hs hk=>⟨rfl,by show sget S'' ide=_;rw [hs];exact h3,hk⟩⟩)
 exact ⟨S',e1,h⟩
theorem v41 (ide:Nat) (e:Int) (a:Fq) (da:D) (S:Store) (hE:EAt S ide e) (ha:Rq a da) (va:VQ a) (hle:a.1≤a.2) :
  ∃ d S',call dp 41 [.bx ide 0,da] S=some (d,S')∧(if e=0 then Rq (pcompl a) d else d=zeroQ)∧EAt S' ide e∧Keeps S S' ide:=by
 obtain ⟨r,er,dq,rfl,hq⟩:=v95 a da ha va hle
 obtain ⟨d,S',e1,h⟩:=f41 (.bx ide 0) da S (fun d S'=>(if e=0 then Rq (pcompl a) d else d=zeroQ)∧EAt S' ide e∧Keeps S S' ide) (by
  unfold s41
  refine box2 S ha.isQ _ fun x y q1=>?_
  have q3:QAt (.box [.sl 1 true [] .ro,.sl 1 true [] .ro] :: .box [x,y]::S) (S.length+1) zeroQ:=QAt.nil (.box [x,y]::S)
  have g1:Grow S (.box [.sl 1 true [] .ro,.sl 1 true [] .ro] :: .box [x,y]::S):=((Grow.refl S).cons _).cons _
  have q1':QAt (.box [.sl 1 true [] .ro,.sl 1 true [] .ro] :: .box [x,y]::S) S.length da:=q1.grow ((Grow.refl _).cons (.box [.sl 1 true [] .ro,.sl 1 true [] .ro]))
  have hE1:EAt (.box [.sl 1 true [] .ro,.sl 1 true [] .ro] :: .box [x,y]::S) ide e:=g1.get hE
  have hide:=sget_lt hE
  rw [al_eq]
  have l1:List.length (Ent.box [x,y]::S)=S.length+1:=rfl
  rw [l1]
  generalize (Ent.box [.sl 1 true [] .ro,.sl 1 true [] .ro] :: .box [x,y]::S)=S2 at *
  obtain ⟨S3,e3,hE3,k3⟩:=v94 ide e 0 dq S2 hE1 hq.isQ
  have hee:(if e=0 then 0 else e)=e:=by split <;> simp [*]
  rw [hee] at hE3
  have hIs:IsQ (if e=0 then dq else zeroQ):=by split;exact hq.isQ;exact isQ_zero
  have q4:=k3.q q3 (by omega)
  obtain ⟨S4,e4,q5,l4,k4⟩:=q4.st hIs
  simp only [q1'.ld,OX_some,er,ext_eq,List.getElem?_cons_zero,List.getElem?_cons_succ,e3,e4,q5.ldc]
  refine ⟨?_,?_,?_⟩
  ·split
   ·exact hq
   ·rfl
  ·show sget S4 ide=_
   rw [k4 ide (by omega)];exact hE3
  ·have h1:=(g1.keeps ide).trans k3
   exact ⟨by rw [l4];exact h1.len,fun j hj hne=>by rw [k4 j (by omega)];exact h1.get j hj hne⟩)
 exact ⟨d,S',e1,h⟩
theorem v43 (ide:Nat) (e:Int) (d:D) (S:Store) (hE:EAt S ide e) (hd:IsQ d) :
  ∃ S',call dp 43 [.bx ide 0,d] S=some (.tup [if e=0 then d else zeroQ,.i .i64 e],S')∧Keeps S S' ide:=by
 obtain ⟨r,S',e1,rfl,hk⟩:=f43 (.bx ide 0) d S (fun r S'=>r = .tup [if e=0 then d else zeroQ,.i .i64 e]∧Keeps S S' ide) (by
  unfold s43
  refine box2 S hd _ fun x y q1=>?_
  have q3:QAt (.box [.sl 1 true [] .ro,.sl 1 true [] .ro] :: .box [x,y]::S) (S.length+1) zeroQ:=QAt.nil (.box [x,y]::S)
  have g1:Grow S (.box [.sl 1 true [] .ro,.sl 1 true [] .ro] :: .box [x,y]::S):=((Grow.refl S).cons _).cons _
  have q1':QAt (.box [.sl 1 true [] .ro,.sl 1 true [] .ro] :: .box [x,y]::S) S.length d:=q1.grow ((Grow.refl _).cons (.box [.sl 1 true [] .ro,.sl 1 true [] .ro]))
  have hE1:EAt (.box [.sl 1 true [] .ro,.sl 1 true [] .ro] :: .box [x,y]::S) ide e:=g1.get hE
  have hide:=sget_lt hE
  rw [al_eq]
  have l1:List.length (Ent.box [x,y]::S)=S.length+1:=rfl
  rw [l1]
  generalize (Ent.box [.sl 1 true [] .ro,.sl 1 true [] .ro] :: .box [x,y]::S)=S2 at *
  by_cases h0:e=0
  ·obtain ⟨S4,e4,q5,l4,k4⟩:=q3.st hd
   simp only [nilck_bx,fa0,hE1.ld,OX_some,neq0,h0,decide_true,Bool.not_true,WB_false,q1'.ld,e4,q5.ldc,if_true]
   refine ⟨trivial,?_⟩
   have h1:=g1.keeps ide
   exact ⟨by rw [l4];exact h1.len,fun j hj hne=>by rw [k4 j (by omega)];exact h1.get j hj hne⟩
  ·obtain ⟨S4,e4,q5,l4,k4⟩:=q3.st isQ_zero
   have hE4:EAt S4 ide e:=by
    show sget S4 ide=_
    rw [k4 ide (by omega)];exact hE1
   simp only [nilck_bx,fa0,hE1.ld,OX_some,neq0,h0,decide_false,Bool.not_false,WB_true,bld0,zero_agg,e4,q5.ldc,if_false,hE4.ld,deq_self,true_and]
   have h1:=g1.keeps ide
   exact ⟨by rw [l4];exact h1.len,fun j hj hne=>by rw [k4 j (by omega)];exact h1.get j hj hne⟩)
 exact ⟨S',e1,hk⟩
end Go.Proofs.YtjniafcnjbbomaaGreatDoor.DE.V

namespace Go.Proofs.YtjniafcnjbbomaaGreatDoor.DE.V
open Go NL
def qc (c:Ch):Fq:=(val c.num,val c.den)
theorem vc_q {c:Ch} (ok:OkC c) (h:VC c):VQ (qc c)∧Rq (qc c) (eCq c)∧(qc c).1≤(qc c).2:=by
 obtain ⟨h1,h2,h3⟩:=VQ_of ok.l1 ok.l2 h.1.2
 refine ⟨h1,⟨c.2.1.1,c.2.2.1,?_,?_,?_⟩,h.2.2⟩
 ·show eQ _ _ c.num c.den=eQ _ _ (ofN (val c.num)) (ofN (val c.den))
  rw [←h2,←h3]
 ·show NF _ (ofN (val c.num))
  rw [←h2];exact ok.f1
 ·show NF _ (ofN (val c.den))
  rw [←h3];exact ok.f2
def wfac (w:List Row) (c:Ch):Fq:=if c.1∈w then qc c else pcompl (qc c)
def wst (w:List Row) (o:Option Fq) (c:Ch):Option Fq:=o.bind fun a=>pmul a (wfac w c)
def wf (w:List Row) (l:List Ch):Option Fq:=l.foldl (wst w) (some (1,1))
theorem VL.all {l:List Ch} (h:VL l):∀ c,c∈l→VC c:=by
 intro c hc
 obtain ⟨i,hi⟩:=List.mem_iff_getElem?.1 hc
 exact (h i c hi).1
end Go.Proofs.YtjniafcnjbbomaaGreatDoor.DE.V

namespace Go.Proofs.YtjniafcnjbbomaaGreatDoor.DE.V
open Go NL
theorem v11 (o:Option Fq) (e:Int) (d d':D) (c c':D) (h:RT o e (.tup [d,c])) (h':RT o e (.tup [d',c'])) (hl:∀ q,o=some q→Lt128 q.1∧Lt128 q.2):isoCall (call dp) 11 [d,c,d',c']=some (.b true):=by
 obtain ⟨n1,n2,m1,m2,a,b,k,rfl,rfl,rfl,rfl,la,lb⟩:∃ n1 n2 m1 m2 a b k,d=eQ n1 n2 a b∧d'=eQ m1 m2 a b∧c = .i .i64 k∧c' = .i .i64 k∧Bd a.length∧Bd b.length:=by
  cases o with
  | none=>
   simp only [RT,D.tup.injEq,List.cons.injEq,and_true] at h h'
   obtain ⟨rfl,rfl⟩:=h
   obtain ⟨rfl,rfl⟩:=h'
   exact ⟨_,_,_,_,[],[],_,rfl,rfl,rfl,rfl,by unfold Bd;simp,by unfold Bd;simp⟩
  | some q=>
   obtain ⟨dq,h1,n1,n2,rfl,_⟩:=h
   obtain ⟨dq',h1',m1,m2,rfl,_⟩:=h'
   simp only [D.tup.injEq,List.cons.injEq,and_true] at h1 h1'
   obtain ⟨rfl,rfl⟩:=h1
   obtain ⟨rfl,rfl⟩:=h1'
   exact ⟨_,_,_,_,_,_,_,rfl,rfl,rfl,rfl,bd_ofN (hl q rfl).1,bd_ofN (hl q rfl).2⟩
 apply i11 _ _ _ _ _ (by simp [noRefL]) rfl
 have u16:=v16 n1 n2 m1 m2 a b a b la lb
 simp only [eQ] at u16
 simp [s11,u16,eQ]
end Go.Proofs.YtjniafcnjbbomaaGreatDoor.DE.V

namespace Go.Proofs.YtjniafcnjbbomaaGreatDoor.DE.V
open Go NL
def mix (p lo hi:Fq):Option Fq:=(pmul (pcompl p) lo).bind fun a=>(pmul p hi).bind fun b=>padd a b
theorem mix_vq {p lo hi q:Fq} (vp:VQ p) (hp:p.1≤p.2) (vl:VQ lo) (vh:VQ hi) (h:mix p lo hi=some q):VQ q:=by
 unfold mix at h
 cases h1:pmul (pcompl p) lo with
 | none=>rw [h1] at h;cases h
 | some a=>
  rw [h1,Option.bind_some] at h
  cases h2:pmul p hi with
  | none=>rw [h2] at h;cases h
  | some b=>
   rw [h2,Option.bind_some] at h
   exact VQ_add (VQ_mul (VQ_compl vp hp) vl h1) (VQ_mul vp vh h2) h
theorem v47 (p lo hi:Fq) (dp' dl dh:D) (hp:Rq p dp') (hl:Rq lo dl) (hh:Rq hi dh) (vp:VQ p) (vl:VQ lo) (vh:VQ hi) (hle:p.1≤p.2):∃ r,isoCall (call dp) 47 [dp',dl,dh]=some r∧RT (mix p lo hi) 6 r:=by
 obtain ⟨r1,e1,dc,rfl,hc⟩:=v50 p dp' hp vp hle
 obtain ⟨r2,e2,h2⟩:=v51 (pcompl p) lo dc dl hc hl (VQ_compl vp hle) vl
 obtain ⟨r3,e3,h3⟩:=v51 p hi dp' dh hp hh vp vh
 obtain ⟨c1,c2,rfl,_⟩:=hc
 obtain ⟨n1,n2,rfl,_⟩:=hp
 obtain ⟨l1,l2,rfl,_⟩:=hl
 obtain ⟨k1,k2,rfl,_⟩:=hh
 apply j47 _ _ _ _ (by simp [noRefL]) (fun r h=>h.noRef)
 simp only [eQ] at e1 e2 e3
 cases o2:pmul (pcompl p) lo with
 | none=>
  rw [o2] at h2
  have hm:mix p lo hi=none:=by unfold mix;rw [o2];rfl
  simp only [RT] at h2
  subst h2
  simp [s47,e1,e2,bld0,st2,ldc,hm,RT,eQ]
 | some a=>
  rw [o2] at h2
  obtain ⟨da,rfl,ha⟩:=h2
  cases o3:pmul p hi with
  | none=>
   rw [o3] at h3
   have hm:mix p lo hi=none:=by unfold mix;rw [o2,Option.bind_some,o3];rfl
   simp only [RT] at h3
   subst h3
   obtain ⟨a1,a2,rfl,_⟩:=ha
   simp only [eQ] at e2 e3
   simp [s47,e1,e2,e3,bld0,st2,ldc,hm,RT,eQ]
  | some b=>
   rw [o3] at h3
   obtain ⟨db,rfl,hb⟩:=h3
   have hm:mix p lo hi=padd a b:=by unfold mix;rw [o2,Option.bind_some,o3,Option.bind_some]
   obtain ⟨r4,e4,h4⟩:=v99 a b da db ha hb (VQ_mul (VQ_compl vp hle) vl o2) (VQ_mul vp vh o3)
   obtain ⟨a1,a2,rfl,_⟩:=ha
   obtain ⟨b1,b2,rfl,_⟩:=hb
   obtain ⟨d4,c4,rfl,s4⟩:=h4.split
   obtain ⟨m1,m2,x,y,rfl⟩:=s4.isQ
   simp only [eQ] at e2 e3 e4
   rw [hm]
   simp [s47,e1,e2,e3,e4,st2,ldc]
   exact h4
end Go.Proofs.YtjniafcnjbbomaaGreatDoor.DE.V

namespace Go.Proofs.YtjniafcnjbbomaaGreatDoor.DE
open Go
def s89_r0 (cf:CallF) (a0:D) (a2:D) (a3:D) (a7:D) (a8:D) (a9:D) (a10:D) (S:Store) (Q:Ex→List D→Store→Prop):Prop:=
 OX (lenD false a0) fun x1=>
 OX (binD .leq .num x1 (.i .i64 4096)) fun x2=>
 Q .ret (mkf 27 [(0,.top),(2,x2),(3,.top),(7,.top),(8,.top),(9,.top),(10,.top)]) S
theorem e89_r0 (cf:CallF) (a0:D) (a2:D) (a3:D) (a7:D) (a8:D) (a9:D) (a10:D) (S:Store) (Q:Ex→List D→Store→Prop):wp cf c89_r0 (mkf 27 [(0,a0),(2,a2),(3,a3),(7,a7),(8,a8),(9,a9),(10,a10)]) S Q=s89_r0 cf a0 a2 a3 a7 a8 a9 a10 S Q:=wpS_of (by kernel_rfl)
def s89_0 (cf:CallF) (a0:D) (a2:D) (a3:D) (a7:D) (a8:D) (a9:D) (a10:D) (S:Store) (Q:Ex→List D→Store→Prop):Prop:=
 OX (binD .lss .num a9 a8) fun x3=>
 WB x3
 (OX (iaD 2 a7 a9) fun x4=>
 OX (ldD S 2 true x4) fun x5=>
 al [.i .i64 0,.i .i64 0] S fun x6 S7=>
 OX (stD S7 2 true x6 x5) fun S9=>
 OX (ldD S9 2 true x6) fun x10=>
 OX (isoCall cf 52 [x10]) fun x11=>
 OX (unD .not x11) fun x12=>
 OX (gsel x12 false (some a3)) fun x13=>
 OX (gsel x12 false (ldD S9 2 true x6)) fun x14=>
 OX (gsel x12 false (lkD' (.agg [.i,.i]) false (.b false) S9 x13 x14)) fun x15=>
 OX (pickD x12 (.b true) x15) fun x16=>
 WB x16
 (Q .ret (mkf 27 [(0,.top),(2,(.b false)),(3,.top),(7,.top),(8,.top),(9,.top),(10,.top)]) S9)
 (OX (ldD S9 2 true x6) fun x17=>
 OX (muD' (.agg [.i,.i]) S9 a3 x17 (.b true)) fun S19=>
 OX (binD .add .num a9 (.i .i64 1)) fun x20=>
 Q .normal (mkf 27 [(0,a0),(2,a2),(3,a3),(7,a7),(8,a8),(9,x20),(10,.top)]) S19))
 (Q (.exit 0) (mkf 27 [(0,a0),(2,a2),(3,a3),(7,a7),(8,a8),(9,a9),(10,x3)]) S)
theorem e89_0 (cf:CallF) (a0:D) (a2:D) (a3:D) (a7:D) (a8:D) (a9:D) (a10:D) (S:Store) (Q:Ex→List D→Store→Prop):wp cf c89_0 (fkill (mkf 27 [(0,a0),(2,a2),(3,a3),(7,a7),(8,a8),(9,a9),(10,a10)]) []) S Q=s89_0 cf a0 a2 a3 a7 a8 a9 a10 S Q:=wpS_of (by kernel_rfl)
def s89 (cf:CallF) (a0:D) (S:Store) (Post:D→Store→Prop):Prop:=
 mm S fun x21 S22=>
 OX (lenD false a0) fun x23=>
 W cf (.loop [] c89_0) (mkf 27 [(0,a0),(2,.top),(3,x21),(7,a0),(8,x23),(9,(.i .i64 0)),(10,.top)]) S22 (Qblk 0 (QS cf c89_r0 (FinK [.t 2] Post)))
theorem e89 (cf:CallF) (a0:D) (S:Store) (Post:D→Store→Prop):wp cf c89 (frame0 d89 [a0]) S (FinK d89.res Post)=s89 cf a0 S Post:=wpS_of (by kernel_rfl)
theorem i89 (a0:D) (r:D) (ha:noRefL (stripL [a0])=true) (hr:noRef r=true) (h:s89 (call dp) (strip a0) [] fun d _=>stripT d=r):isoCall (call dp) 89 [a0]=some r:=iso_s (f:=d89) rfl ⟨rfl,by decide⟩ ha hr (by rw [←e89] at h;exact h)
def s90_r0 (cf:CallF) (a1:D) (a2:D) (a3:D) (a9:D) (a10:D) (a11:D) (a12:D) (S:Store) (Q:Ex→List D→Store→Prop):Prop:=
 OX (faD 2 a1) fun x1=>
 OX (ldD S 1 false x1) fun x2=>
 OX (binD .geq .num x2 (.i .i64 0)) fun x3=>
 OX (gsel x3 true (faD 2 a1)) fun x4=>
 OX (gsel x3 true (ldD S 1 false x4)) fun x5=>
 OX (gsel x3 true (faD 1 a1)) fun x6=>
 OX (gsel x3 true (ldD S 1 false x6)) fun x7=>
 OX (gsel x3 true (lenD false x7)) fun x8=>
 OX (gsel x3 true (binD .add .num x8 (.i .i64 2))) fun x9=>
 OX (gsel x3 true (binD .lss .num x5 x9)) fun x10=>
 OX (pickD x3 x10 (.b false)) fun x11=>
 Q .ret (mkf 98 [(1,.top),(2,x11),(3,.top),(9,.top),(10,.top),(11,.top),(12,.top)]) S
theorem e90_r0 (cf:CallF) (a1:D) (a2:D) (a3:D) (a9:D) (a10:D) (a11:D) (a12:D) (S:Store) (Q:Ex→List D→Store→Prop):wp cf c90_r0 (mkf 98 [(1,a1),(2,a2),(3,a3),(9,a9),(10,a10),(11,a11),(12,a12)]) S Q=s90_r0 cf a1 a2 a3 a9 a10 a11 a12 S Q:=wpS_of (by kernel_rfl)
def s90_0 (cf:CallF) (a1:D) (a2:D) (a3:D) (a9:D) (a10:D) (a11:D) (a12:D) (S:Store) (Q:Ex→List D→Store→Prop):Prop:=
 OX (binD .lss .num a11 a10) fun x12=>
 WB x12
 (OX (iaD 3 a9 a11) fun x13=>
 OX (ldD S 3 true x13) fun x14=>
 al [.i .i64 0,.i .i64 0,.i .i64 0] S fun x15 S16=>
 OX (stD S16 3 true x15 x14) fun S18=>
 OX (faD 1 x15) fun x19=>
 OX (ldD S18 1 false x19) fun x20=>
 OX (binD .geq .num x20 (.i .i64 0)) fun x21=>
 OX (gsel x21 true (faD 2 x15)) fun x22=>
 OX (gsel x21 true (ldD S18 1 false x22)) fun x23=>
 OX (gsel x21 true (binD .geq .num x23 (.i .i64 0))) fun x24=>
 OX (pickD x21 x24 (.b false)) fun x25=>
 OX (gsel x25 true (faD 1 x15)) fun x26=>
 OX (gsel x25 true (ldD S18 1 false x26)) fun x27=>
 OX (gsel x25 true (some a11)) fun x28=>
 OX (gsel x25 true (binD .add .num x28 (.i .i64 2))) fun x29=>
 OX (gsel x25 true (binD .lss .num x27 x29)) fun x30=>
 OX (pickD x25 x30 (.b false)) fun x31=>
 OX (gsel x31 true (faD 2 x15)) fun x32=>
 OX (gsel x31 true (ldD S18 1 false x32)) fun x33=>
 OX (gsel x31 true (some a11)) fun x34=>
 OX (gsel x31 true (binD .add .num x34 (.i .i64 2))) fun x35=>
 OX (gsel x31 true (binD .lss .num x33 x35)) fun x36=>
 OX (pickD x31 x36 (.b false)) fun x37=>
 OX (faD 0 x15) fun x38=>
 OX (ldD S18 1 false x38) fun x39=>
 OX (binD .lss .num x39 (.i .i64 0)) fun x40=>
 OX (gsel x40 false (faD 0 x15)) fun x41=>
 OX (gsel x40 false (ldD S18 1 false x41)) fun x42=>
 OX (gsel x40 false (faD 0 a1)) fun x43=>
 OX (gsel x40 false (ldD S18 1 false x43)) fun x44=>
 OX (gsel x40 false (lenD false x44)) fun x45=>
 OX (gsel x40 false (binD .geq .num x42 x45)) fun x46=>
 OX (pickD x40 (.b true) x46) fun x47=>
 OX (gsel x47 false (some x37)) fun x48=>
 OX (gsel x47 false (unD .not x48)) fun x49=>
 OX (pickD x47 (.b true) x49) fun x50=>
 OX (gsel x50 false (faD 1 x15)) fun x51=>
 OX (gsel x50 false (ldD S18 1 false x51)) fun x52=>
 OX (gsel x50 false (faD 2 x15)) fun x53=>
 OX (gsel x50 false (ldD S18 1 false x53)) fun x54=>
 OX (gsel x50 false (binD .eql .num x52 x54)) fun x55=>
 OX (pickD x50 (.b true) x55) fun x56=>
 OX (gsel x56 false (some a3)) fun x57=>
 OX (gsel x56 false (ldD S18 3 true x15)) fun x58=>
 OX (gsel x56 false (lkD' (.agg [.i,.i,.i]) false (.b false) S18 x57 x58)) fun x59=>
 OX (pickD x56 (.b true) x59) fun x60=>
 OX (gsel x60 false (ldD S18 3 true a1)) fun x61=>
 OX (gsel x60 false (faD 1 x15)) fun x62=>
 OX (gsel x60 false (ldD S18 1 false x62)) fun x63=>
 OX (gsel x60 false (isoCall cf 158 [x61,x63])) fun x64=>
 OX (gsel x60 false (faD 0 x15)) fun x65=>
 OX (gsel x60 false (ldD S18 1 false x65)) fun x66=>
 OX (gsel x60 false (binD .leq .num x64 x66)) fun x67=>
 OX (pickD x60 (.b true) x67) fun x68=>
 OX (gsel x68 false (ldD S18 3 true a1)) fun x69=>
 OX (gsel x68 false (faD 2 x15)) fun x70=>
 OX (gsel x68 false (ldD S18 1 false x70)) fun x71=>
 OX (gsel x68 false (isoCall cf 158 [x69,x71])) fun x72=>
 OX (gsel x68 false (faD 0 x15)) fun x73=>
 OX (gsel x68 false (ldD S18 1 false x73)) fun x74=>
 OX (gsel x68 false (binD .leq .num x72 x74)) fun x75=>
 OX (pickD x68 (.b true) x75) fun x76=>
 WB x76
 (Q .ret (mkf 98 [(1,.top),(2,(.b false)),(3,.top),(9,.top),(10,.top),(11,.top),(12,.top)]) S18)
 (OX (ldD S18 3 true x15) fun x77=>
 OX (muD' (.agg [.i,.i,.i]) S18 a3 x77 (.b true)) fun S79=>
 OX (binD .add .num a11 (.i .i64 1)) fun x80=>
 Q .normal (mkf 98 [(1,a1),(2,a2),(3,a3),(9,a9),(10,a10),(11,x80),(12,.top)]) S79))
 (Q (.exit 0) (mkf 98 [(1,a1),(2,a2),(3,a3),(9,a9),(10,a10),(11,a11),(12,x12)]) S)
theorem e90_0 (cf:CallF) (a1:D) (a2:D) (a3:D) (a9:D) (a10:D) (a11:D) (a12:D) (S:Store) (Q:Ex→List D→Store→Prop):wp cf c90_0 (fkill (mkf 98 [(1,a1),(2,a2),(3,a3),(9,a9),(10,a10),(11,a11),(12,a12)]) []) S Q=s90_0 cf a1 a2 a3 a9 a10 a11 a12 S Q:=wpS_of (by kernel_rfl)
def s90 (cf:CallF) (a0:D) (S:Store) (Post:D→Store→Prop):Prop:=
 bxx 3 true a0 S fun x81 S82=>
 mm S82 fun x83 S84=>
 OX (faD 1 x81) fun x85=>
 OX (ldD S84 1 false x85) fun x86=>
 OX (lenD false x86) fun x87=>
 W cf (.loop [] c90_0) (mkf 98 [(1,x81),(2,.top),(3,x83),(9,x86),(10,x87),(11,(.i .i64 0)),(12,.top)]) S84 (Qblk 0 (QS cf c90_r0 (FinK [.t 2] Post)))
theorem e90 (cf:CallF) (a0:D) (S:Store) (Post:D→Store→Prop):wp cf c90 (frame0 d90 [a0]) S (FinK d90.res Post)=s90 cf a0 S Post:=wpS_of (by kernel_rfl)
theorem i90 (a0:D) (r:D) (ha:noRefL (stripL [a0])=true) (hr:noRef r=true) (h:s90 (call dp) (strip a0) [] fun d _=>stripT d=r):isoCall (call dp) 90 [a0]=some r:=iso_s (f:=d90) rfl ⟨rfl,by decide⟩ ha hr (by rw [←e90] at h;exact h)
def s91 (cf:CallF) (a0:D) (a1:D) (a2:D) (S:Store) (Post:D→Store→Prop):Prop:=
 bxx 1 false a1 S fun x1 S2=>
 al [.sl 2 true [] .ro,.sl 3 true [] .ro,.i .i64 0] S2 fun x3 S4=>
 OX (isoCall cf 159 [a0]) fun x5=>
 OX (bldV [.sl 2 true [] .ro,.sl 3 true [] .ro,.i .i64 0] [(0,1,false,x5)]) fun x6=>
 al [.sl 2 true [] .ro,.sl 3 true [] .ro,.i .i64 0] S4 fun x7 S8=>
 OX (stD S8 3 true x7 (.agg x6)) fun S10=>
 mm S10 fun x11 S12=>
 OX (muD' (.one .i) S12 x11 (.i .i64 0) (.i .i64 0)) fun S14=>
 OX (muD' (.one .i) S14 x11 (.i .i64 1) (.i .i64 1)) fun S16=>
 al [.nilm] S16 fun x17 S18=>
 OX (stD S18 1 false x17 x11) fun S20=>
 al [.top] S20 fun x21 S22=>
 OX (stD S22 1 false x21 (.fn 160 [x17,x1,x21,x7])) fun S24=>
 OX (ldD S24 1 false x21) fun x25=>
 OX (fnD x25) fun q27=>OX (cf q27.1 ([a2]++q27.2) S24) fun p28=>
 OX (faD 2 x7) fun x29=>
 OX (stD p28.2 1 false x29 p28.1) fun S31=>
 OX (ldD S31 3 true x7) fun x32=>
 OX (stD S31 3 true x3 x32) fun S34=>
 OX (ldc S34 3 true x3) fun x35=>Post x35 S34
theorem e91 (cf:CallF) (a0:D) (a1:D) (a2:D) (S:Store) (Post:D→Store→Prop):wp cf c91 (frame0 d91 [a0,a1,a2]) S (FinK d91.res Post)=s91 cf a0 a1 a2 S Post:=wpS_of (by kernel_rfl)
theorem i91 (a0:D) (a1:D) (a2:D) (r:D) (ha:noRefL (stripL [a0,a1,a2])=true) (hr:noRef r=true) (h:s91 (call dp) (strip a0) (strip a1) (strip a2) [] fun d _=>stripT d=r):isoCall (call dp) 91 [a0,a1,a2]=some r:=iso_s (f:=d91) rfl ⟨rfl,by decide⟩ ha hr (by rw [←e91] at h;exact h)
def s160 (cf:CallF) (a0:D) (a1:D) (a2:D) (a3:D) (a4:D) (S:Store) (Post:D→Store→Prop):Prop:=
 OX (ldD S 1 false a1) fun x1=>
 OX (lkD' (.one .i) true (.i .i64 0) S x1 a0) fun x2=>
 OX (extD x2 0) fun x3=>
 OX (extD x2 1) fun x4=>
 WB x4
 (Post x3 S)
 (OX (ldD S 1 false a2) fun x5=>
 OX (binD .sub .num a0 (.i .i64 2)) fun x6=>
 OX (iaD 3 x5 x6) fun x7=>
 OX (ldD S 3 true x7) fun x8=>
 al [.i .i64 0,.i .i64 0,.i .i64 0] S fun x9 S10=>
 OX (stD S10 3 true x9 x8) fun S12=>
 OX (ldD S12 1 false a3) fun x13=>
 OX (faD 1 x9) fun x14=>
 OX (ldD S12 1 false x14) fun x15=>
 OX (ldD S12 1 false a3) fun x16=>
 OX (faD 2 x9) fun x17=>
 OX (ldD S12 1 false x17) fun x18=>
 OX (fnD x13) fun q20=>OX (cf q20.1 ([x15]++q20.2) S12) fun p21=>
 OX (ldD p21.2 1 false a3) fun x22=>deq x22 x16=true ∧
 (OX (ldD p21.2 1 false x17) fun x23=>deq x23 x18=true ∧
 (OX (faD 1 x9) fun x24=>
 OX (fnD x16) fun q26=>OX (cf q26.1 ([x18]++q26.2) p21.2) fun p27=>
 OX (stD p27.2 1 false x24 p21.1) fun S29=>
 OX (faD 2 x9) fun x30=>
 OX (stD S29 1 false x30 p27.1) fun S32=>
 OX (faD 1 a4) fun x33=>
 OX (ldD S32 1 false x33) fun x34=>
 OX (ldD S32 3 true x9) fun x35=>
 OX (cellsV 3 true [x35]) fun x36=>
 OX (appD 3 false x34 (.sl 3 false x36 .ro) S32) fun p38=>
 OX (faD 1 a4) fun x39=>
 OX (stD p38.2 1 false x39 p38.1) fun S41=>
 OX (ldD S41 1 false a1) fun x42=>
 OX (faD 1 a4) fun x43=>
 OX (ldD S41 1 false x43) fun x44=>
 OX (lenD false x44) fun x45=>
 OX (binD .sub .num x45 (.i .i64 1)) fun x46=>
 OX (binD .add .num x46 (.i .i64 2)) fun x47=>
 OX (muD' (.one .i) S41 x42 a0 x47) fun S49=>
 OX (ldD S49 1 false a1) fun x50=>
 OX (lkD' (.one .i) false (.i .i64 0) S49 x50 a0) fun x51=>
 Post x51 S49)))
theorem e160 (cf:CallF) (a0:D) (a1:D) (a2:D) (a3:D) (a4:D) (S:Store) (Post:D→Store→Prop):wp cf c160 (frame0 d160 [a0,a1,a2,a3,a4]) S (FinK d160.res Post)=s160 cf a0 a1 a2 a3 a4 S Post:=wpS_of (by kernel_rfl)
theorem f160 (a0:D) (a1:D) (a2:D) (a3:D) (a4:D) (S:Store) (Post:D→Store→Prop) (h:s160 (call dp) a0 a1 a2 a3 a4 S Post):∃ r S',call dp 160 [a0,a1,a2,a3,a4] S=some (r,S')∧Post r S':=call_s (f:=d160) rfl ⟨rfl,by decide⟩ (by rw [←e160] at h;exact h)
def s158 (cf:CallF) (a0:D) (a1:D) (S:Store) (Post:D→Store→Prop):Prop:=
 bxx 3 true a0 S fun x1 S2=>
 OX (binD .lss .num a1 (.i .i64 2)) fun x3=>
 WB x3
 (OX (faD 0 x1) fun x4=>
 OX (ldD S2 1 false x4) fun x5=>
 OX (lenD false x5) fun x6=>
 Post x6 S2)
 (OX (faD 1 x1) fun x7=>
 OX (ldD S2 1 false x7) fun x8=>
 OX (binD .sub .num a1 (.i .i64 2)) fun x9=>
 OX (iaD 3 x8 x9) fun x10=>
 OX (faD 0 x10) fun x11=>
 OX (ldD S2 1 false x11) fun x12=>
 Post x12 S2)
theorem e158 (cf:CallF) (a0:D) (a1:D) (S:Store) (Post:D→Store→Prop):wp cf c158 (frame0 d158 [a0,a1]) S (FinK d158.res Post)=s158 cf a0 a1 S Post:=wpS_of (by kernel_rfl)
theorem i158 (a0:D) (a1:D) (r:D) (ha:noRefL (stripL [a0,a1])=true) (hr:noRef r=true) (h:s158 (call dp) (strip a0) (strip a1) [] fun d _=>stripT d=r):isoCall (call dp) 158 [a0,a1]=some r:=iso_s (f:=d158) rfl ⟨rfl,by decide⟩ ha hr (by rw [←e158] at h;exact h)
def s92_r0 (cf:CallF) (a0:D) (a1:D) (a4:D) (a12:D) (a13:D) (a14:D) (S:Store) (Q:Ex→List D→Store→Prop):Prop:=
 Q .ret (mkf 26 [(0,.top),(1,.top),(4,(.b true)),(12,.top),(13,.top),(14,.top)]) S
theorem e92_r0 (cf:CallF) (a0:D) (a1:D) (a4:D) (a12:D) (a13:D) (a14:D) (S:Store) (Q:Ex→List D→Store→Prop):wp cf c92_r0 (mkf 26 [(0,a0),(1,a1),(4,a4),(12,a12),(13,a13),(14,a14)]) S Q=s92_r0 cf a0 a1 a4 a12 a13 a14 S Q:=wpS_of (by kernel_rfl)
def s92_0 (cf:CallF) (a0:D) (a1:D) (a4:D) (a12:D) (a13:D) (a14:D) (S:Store) (Q:Ex→List D→Store→Prop):Prop:=
 OX (binD .lss .num a13 a12) fun x1=>
 WB x1
 (OX (iaD 3 a0 a13) fun x2=>
 OX (ldD S 3 true x2) fun x3=>
 OX (iaD 3 a1 a13) fun x4=>
 OX (ldD S 3 true x4) fun x5=>
 OX (binD .neq (.agg [.i,.i,.i]) x3 x5) fun x6=>
 WB x6
 (Q .ret (mkf 26 [(0,.top),(1,.top),(4,(.b false)),(12,.top),(13,.top),(14,.top)]) S)
 (OX (binD .add .num a13 (.i .i64 1)) fun x7=>
 Q .normal (mkf 26 [(0,a0),(1,a1),(4,a4),(12,a12),(13,x7),(14,.top)]) S))
 (Q (.exit 0) (mkf 26 [(0,a0),(1,a1),(4,a4),(12,a12),(13,a13),(14,x1)]) S)
theorem e92_0 (cf:CallF) (a0:D) (a1:D) (a4:D) (a12:D) (a13:D) (a14:D) (S:Store) (Q:Ex→List D→Store→Prop):wp cf c92_0 (fkill (mkf 26 [(0,a0),(1,a1),(4,a4),(12,a12),(13,a13),(14,a14)]) []) S Q=s92_0 cf a0 a1 a4 a12 a13 a14 S Q:=wpS_of (by kernel_rfl)
def s92 (cf:CallF) (a0:D) (a1:D) (S:Store) (Post:D→Store→Prop):Prop:=
 OX (lenD false a0) fun x8=>
 OX (lenD false a1) fun x9=>
 OX (binD .neq .num x8 x9) fun x10=>
 WB x10
 (Post (.b false) S)
 (OX (lenD false a0) fun x11=>
 W cf (.loop [] c92_0) (mkf 26 [(0,a0),(1,a1),(4,.top),(12,x11),(13,(.i .i64 0)),(14,.top)]) S (Qblk 0 (QS cf c92_r0 (FinK [.t 4] Post))))
theorem e92 (cf:CallF) (a0:D) (a1:D) (S:Store) (Post:D→Store→Prop):wp cf c92 (frame0 d92 [a0,a1]) S (FinK d92.res Post)=s92 cf a0 a1 S Post:=wpS_of (by kernel_rfl)
theorem i92 (a0:D) (a1:D) (r:D) (ha:noRefL (stripL [a0,a1])=true) (hr:noRef r=true) (h:s92 (call dp) (strip a0) (strip a1) [] fun d _=>stripT d=r):isoCall (call dp) 92 [a0,a1]=some r:=iso_s (f:=d92) rfl ⟨rfl,by decide⟩ ha hr (by rw [←e92] at h;exact h)
def s159 (cf:CallF) (a0:D) (S:Store) (Post:D→Store→Prop):Prop:=
 OX (binD .eql .sl a0 (.sl 2 true [] .ro)) fun x1=>
 WB x1
 (Post (.sl 2 true [] .ro) S)
 (OX (cellsV 2 true []) fun x2=>
 OX (appD 2 false (bslO 2 x2 S).1 a0 (bslO 2 x2 S).2) fun p4=>
 Post p4.1 p4.2)
theorem e159 (cf:CallF) (a0:D) (S:Store) (Post:D→Store→Prop):wp cf c159 (frame0 d159 [a0]) S (FinK d159.res Post)=s159 cf a0 S Post:=wpS_of (by kernel_rfl)
theorem i159 (a0:D) (r:D) (ha:noRefL (stripL [a0])=true) (hr:noRef r=true) (h:s159 (call dp) (strip a0) [] fun d _=>stripT d=r):isoCall (call dp) 159 [a0]=some r:=iso_s (f:=d159) rfl ⟨rfl,by decide⟩ ha hr (by rw [←e159] at h;exact h)
def s38 (cf:CallF) (a0:D) (S:Store) (Post:D→Store→Prop):Prop:=
 bxx 3 true a0 S fun x1 S2=>
 OX (faD 0 x1) fun x3=>
 OX (ldD S2 1 false x3) fun x4=>
 OX (isoCall cf 89 [x4]) fun x5=>
 OX (unD .not x5) fun x6=>
 OX (gsel x6 false (faD 1 x1)) fun x7=>
 OX (gsel x6 false (ldD S2 1 false x7)) fun x8=>
 OX (gsel x6 false (lenD false x8)) fun x9=>
 OX (gsel x6 false (binD .gtr .num x9 (.i .i64 4096))) fun x10=>
 OX (pickD x6 (.b true) x10) fun x11=>
 OX (gsel x11 false (ldD S2 3 true x1)) fun x12=>
 OX (gsel x11 false (isoCall cf 90 [x12])) fun x13=>
 OX (gsel x11 false (unD .not x13)) fun x14=>
 OX (pickD x11 (.b true) x14) fun x15=>
 WB x15
 (Post (.b false) S2)
 (OX (faD 0 x1) fun x16=>
 OX (ldD S2 1 false x16) fun x17=>
 OX (faD 1 x1) fun x18=>
 OX (ldD S2 1 false x18) fun x19=>
 OX (faD 2 x1) fun x20=>
 OX (ldD S2 1 false x20) fun x21=>
 OX (isoCall cf 91 [x17,x19,x21]) fun x22=>
 al [.sl 2 true [] .ro,.sl 3 true [] .ro,.i .i64 0] S2 fun x23 S24=>
 OX (stD S24 3 true x23 x22) fun S26=>
 OX (faD 2 x23) fun x27=>
 OX (ldD S26 1 false x27) fun x28=>
 OX (faD 2 x1) fun x29=>
 OX (ldD S26 1 false x29) fun x30=>
 OX (binD .eql .num x28 x30) fun x31=>
 OX (gsel x31 true (faD 1 x23)) fun x32=>
 OX (gsel x31 true (ldD S26 1 false x32)) fun x33=>
 OX (gsel x31 true (faD 1 x1)) fun x34=>
 OX (gsel x31 true (ldD S26 1 false x34)) fun x35=>
 OX (gsel x31 true (isoCall cf 92 [x33,x35])) fun x36=>
 OX (pickD x31 x36 (.b false)) fun x37=>
 Post x37 S26)
theorem e38 (cf:CallF) (a0:D) (S:Store) (Post:D→Store→Prop):wp cf c38 (frame0 d38 [a0]) S (FinK d38.res Post)=s38 cf a0 S Post:=wpS_of (by kernel_rfl)
theorem i38 (a0:D) (r:D) (ha:noRefL (stripL [a0])=true) (hr:noRef r=true) (h:s38 (call dp) (strip a0) [] fun d _=>stripT d=r):isoCall (call dp) 38 [a0]=some r:=iso_s (f:=d38) rfl ⟨rfl,by decide⟩ ha hr (by rw [←e38] at h;exact h)
def s96_r0 (cf:CallF) (a0:D) (a2:D) (a3:D) (a4:D) (a8:D) (a19:D) (S:Store) (Q:Ex→List D→Store→Prop):Prop:=
 OX (binD .add .num a3 (.i .i64 1)) fun x1=>
 Q .normal (mkf 34 [(0,a0),(2,a2),(3,x1),(4,.top),(8,a8),(19,.top)]) S
theorem e96_r0 (cf:CallF) (a0:D) (a2:D) (a3:D) (a4:D) (a8:D) (a19:D) (S:Store) (Q:Ex→List D→Store→Prop):wp cf c96_r0 (mkf 34 [(0,a0),(2,a2),(3,a3),(4,a4),(8,a8),(19,a19)]) S Q=s96_r0 cf a0 a2 a3 a4 a8 a19 S Q:=wpS_of (by kernel_rfl)
def s96_0 (cf:CallF) (a0:D) (a2:D) (a3:D) (a4:D) (a8:D) (a19:D) (S:Store) (Q:Ex→List D→Store→Prop):Prop:=
 OX (binD .lss .num a4 a3) fun x2=>
 WB x2
 (OX (iaD 2 a0 a4) fun x3=>
 OX (ldD S 2 true x3) fun x4=>
 OX (iaD 2 a0 a3) fun x5=>
 OX (ldD S 2 true x5) fun x6=>
 OX (binD .eql (.agg [.i,.i]) x4 x6) fun x7=>
 WB x7
 (Q .ret (mkf 34 [(0,.top),(2,(.b false)),(3,.top),(4,.top),(8,a8),(19,.top)]) S)
 (OX (binD .add .num a4 (.i .i64 1)) fun x8=>
 Q .normal (mkf 34 [(0,a0),(2,a2),(3,a3),(4,x8),(8,a8),(19,.top)]) S))
 (Q (.exit 2) (mkf 34 [(0,a0),(2,a2),(3,a3),(4,a4),(8,a8),(19,x2)]) S)
theorem e96_0 (cf:CallF) (a0:D) (a2:D) (a3:D) (a4:D) (a8:D) (a19:D) (S:Store) (Q:Ex→List D→Store→Prop):wp cf c96_0 (fkill (mkf 34 [(0,a0),(2,a2),(3,a3),(4,a4),(8,a8),(19,a19)]) []) S Q=s96_0 cf a0 a2 a3 a4 a8 a19 S Q:=wpS_of (by kernel_rfl)
def s96_r1 (cf:CallF) (a0:D) (a2:D) (a3:D) (a4:D) (a8:D) (a19:D) (S:Store) (Q:Ex→List D→Store→Prop):Prop:=
 OX (lenD false a0) fun x9=>
 OX (binD .leq .num x9 (.i .i64 4096)) fun x10=>
 Q .ret (mkf 34 [(0,.top),(2,x10),(3,.top),(4,a4),(8,.top),(19,a19)]) S
theorem e96_r1 (cf:CallF) (a0:D) (a2:D) (a3:D) (a4:D) (a8:D) (a19:D) (S:Store) (Q:Ex→List D→Store→Prop):wp cf c96_r1 (mkf 34 [(0,a0),(2,a2),(3,a3),(4,a4),(8,a8),(19,a19)]) S Q=s96_r1 cf a0 a2 a3 a4 a8 a19 S Q:=wpS_of (by kernel_rfl)
def s96_1 (cf:CallF) (a0:D) (a2:D) (a3:D) (a4:D) (a8:D) (a19:D) (S:Store) (Q:Ex→List D→Store→Prop):Prop:=
 OX (lenD false a0) fun x11=>
 OX (binD .lss .num a3 x11) fun x12=>
 WB x12
 (OX (iaD 2 a0 a3) fun x13=>
 OX (ldD S 2 true x13) fun x14=>
 OX (isoCall cf 54 [x14]) fun x15=>
 OX (unD .not x15) fun x16=>
 WB x16
 (Q .ret (mkf 34 [(0,.top),(2,(.b false)),(3,.top),(4,a4),(8,.top),(19,a19)]) S)
 (W cf (.loop [] c96_0) (mkf 34 [(0,a0),(2,a2),(3,a3),(4,(.i .i64 0)),(8,.top),(19,a19)]) S (Qblk 2 (Qblk 1 (QS cf c96_r0 Q)))))
 (Q (.exit 0) (mkf 34 [(0,a0),(2,a2),(3,a3),(4,a4),(8,x12),(19,a19)]) S)
theorem e96_1 (cf:CallF) (a0:D) (a2:D) (a3:D) (a4:D) (a8:D) (a19:D) (S:Store) (Q:Ex→List D→Store→Prop):wp cf c96_1 (fkill (mkf 34 [(0,a0),(2,a2),(3,a3),(4,a4),(8,a8),(19,a19)]) []) S Q=s96_1 cf a0 a2 a3 a4 a8 a19 S Q:=wpS_of (by kernel_rfl)
def s96 (cf:CallF) (a0:D) (S:Store) (Post:D→Store→Prop):Prop:=
 W cf (.loop [] c96_1) (mkf 34 [(0,a0),(2,.top),(3,(.i .i64 0)),(4,.top),(8,.top),(19,.top)]) S (Qblk 0 (QS cf c96_r1 (FinK [.t 2] Post)))
theorem e96 (cf:CallF) (a0:D) (S:Store) (Post:D→Store→Prop):wp cf c96 (frame0 d96 [a0]) S (FinK d96.res Post)=s96 cf a0 S Post:=wpS_of (by kernel_rfl)
theorem i96 (a0:D) (r:D) (ha:noRefL (stripL [a0])=true) (hr:noRef r=true) (h:s96 (call dp) (strip a0) [] fun d _=>stripT d=r):isoCall (call dp) 96 [a0]=some r:=iso_s (f:=d96) rfl ⟨rfl,by decide⟩ ha hr (by rw [←e96] at h;exact h)
def s97 (cf:CallF) (a0:D) (a1:D) (S:Store) (Post:D→Store→Prop):Prop:=
 bxx 3 true a0 S fun x1 S2=>
 OX (binD .lss .num a1 (.i .i64 2)) fun x3=>
 WB x3
 (OX (faD 0 x1) fun x4=>
 OX (ldD S2 1 false x4) fun x5=>
 OX (lenD false x5) fun x6=>
 Post x6 S2)
 (OX (faD 1 x1) fun x7=>
 OX (ldD S2 1 false x7) fun x8=>
 OX (binD .sub .num a1 (.i .i64 2)) fun x9=>
 OX (iaD 3 x8 x9) fun x10=>
 OX (faD 0 x10) fun x11=>
 OX (ldD S2 1 false x11) fun x12=>
 Post x12 S2)
theorem e97 (cf:CallF) (a0:D) (a1:D) (S:Store) (Post:D→Store→Prop):wp cf c97 (frame0 d97 [a0,a1]) S (FinK d97.res Post)=s97 cf a0 a1 S Post:=wpS_of (by kernel_rfl)
theorem i97 (a0:D) (a1:D) (r:D) (ha:noRefL (stripL [a0,a1])=true) (hr:noRef r=true) (h:s97 (call dp) (strip a0) (strip a1) [] fun d _=>stripT d=r):isoCall (call dp) 97 [a0,a1]=some r:=iso_s (f:=d97) rfl ⟨rfl,by decide⟩ ha hr (by rw [←e97] at h;exact h)
def s98_r0 (cf:CallF) (a1:D) (a2:D) (a3:D) (a6:D) (a7:D) (a14:D) (S:Store) (Q:Ex→List D→Store→Prop):Prop:=
 OX (ldD S 3 true a3) fun x1=>
 OX (faD 1 a3) fun x2=>
 OX (ldD S 1 false x2) fun x3=>
 OX (binD .sub .num a1 (.i .i64 2)) fun x4=>
 OX (iaD 3 x3 x4) fun x5=>
 OX (faD 1 x5) fun x6=>
 OX (ldD S 1 false x6) fun x7=>
 OX (cf 98 [x1,x7,a2] S) fun p9=>
 OX (ldD p9.2 3 true a3) fun x10=>
 OX (faD 1 a3) fun x11=>
 OX (ldD p9.2 1 false x11) fun x12=>
 OX (binD .sub .num a1 (.i .i64 2)) fun x13=>
 OX (iaD 3 x12 x13) fun x14=>
 OX (faD 2 x14) fun x15=>
 OX (ldD p9.2 1 false x15) fun x16=>
 OX (cf 98 [x10,x16,p9.1] p9.2) fun p18=>
 OX (cellsV 1 false [a1]) fun x19=>
 OX (appD 1 false p18.1 (.sl 1 false x19 .ro) p18.2) fun p21=>
 Q .ret (mkf 48 [(1,.top),(2,.top),(3,.top),(6,p21.1),(7,.top),(14,.top)]) p21.2
theorem e98_r0 (cf:CallF) (a1:D) (a2:D) (a3:D) (a6:D) (a7:D) (a14:D) (S:Store) (Q:Ex→List D→Store→Prop):wp cf c98_r0 (mkf 48 [(1,a1),(2,a2),(3,a3),(6,a6),(7,a7),(14,a14)]) S Q=s98_r0 cf a1 a2 a3 a6 a7 a14 S Q:=wpS_of (by kernel_rfl)
def s98_0 (cf:CallF) (a1:D) (a2:D) (a3:D) (a6:D) (a7:D) (a14:D) (S:Store) (Q:Ex→List D→Store→Prop):Prop:=
 OX (lenD false a2) fun x22=>
 OX (binD .lss .num a7 x22) fun x23=>
 WB x23
 (OX (iaD 1 a2 a7) fun x24=>
 OX (ldD S 1 false x24) fun x25=>
 OX (binD .eql .num x25 a1) fun x26=>
 WB x26
 (Q .ret (mkf 48 [(1,.top),(2,.top),(3,.top),(6,a2),(7,.top),(14,.top)]) S)
 (OX (binD .add .num a7 (.i .i64 1)) fun x27=>
 Q .normal (mkf 48 [(1,a1),(2,a2),(3,a3),(6,a6),(7,x27),(14,.top)]) S))
 (Q (.exit 0) (mkf 48 [(1,a1),(2,a2),(3,a3),(6,a6),(7,a7),(14,x23)]) S)
theorem e98_0 (cf:CallF) (a1:D) (a2:D) (a3:D) (a6:D) (a7:D) (a14:D) (S:Store) (Q:Ex→List D→Store→Prop):wp cf c98_0 (fkill (mkf 48 [(1,a1),(2,a2),(3,a3),(6,a6),(7,a7),(14,a14)]) []) S Q=s98_0 cf a1 a2 a3 a6 a7 a14 S Q:=wpS_of (by kernel_rfl)
def s98 (cf:CallF) (a0:D) (a1:D) (a2:D) (S:Store) (Post:D→Store→Prop):Prop:=
 bxx 3 true a0 S fun x28 S29=>
 OX (binD .lss .num a1 (.i .i64 2)) fun x30=>
 WB x30
 (Post a2 S29)
 (W cf (.loop [] c98_0) (mkf 48 [(1,a1),(2,a2),(3,x28),(6,.top),(7,(.i .i64 0)),(14,.top)]) S29 (Qblk 0 (QS cf c98_r0 (FinK [.t 6] Post))))
theorem e98 (cf:CallF) (a0:D) (a1:D) (a2:D) (S:Store) (Post:D→Store→Prop):wp cf c98 (frame0 d98 [a0,a1,a2]) S (FinK d98.res Post)=s98 cf a0 a1 a2 S Post:=wpS_of (by kernel_rfl)
theorem f98 (a0:D) (a1:D) (a2:D) (S:Store) (Post:D→Store→Prop) (h:s98 (call dp) a0 a1 a2 S Post):∃ r S',call dp 98 [a0,a1,a2] S=some (r,S')∧Post r S':=call_s (f:=d98) rfl ⟨rfl,by decide⟩ (by rw [←e98] at h;exact h)
def s44_r1 (cf:CallF) (a1:D) (a2:D) (a3:D) (a4:D) (a5:D) (a6:D) (a7:D) (a36:D) (a104:D) (a121:D) (S:Store) (Q:Ex→List D→Store→Prop):Prop:=
 OX (lenD false a6) fun x1=>
 OX (faD 1 a1) fun x2=>
 OX (ldD S 1 false x2) fun x3=>
 OX (lenD false x3) fun x4=>
 OX (binD .eql .num x1 x4) fun x5=>
 Q .ret (mkf 137 [(1,.top),(2,x5),(3,a3),(4,a4),(5,a5),(6,.top),(7,.top),(36,a36),(104,a104),(121,.top)]) S
theorem e44_r1 (cf:CallF) (a1:D) (a2:D) (a3:D) (a4:D) (a5:D) (a6:D) (a7:D) (a36:D) (a104:D) (a121:D) (S:Store) (Q:Ex→List D→Store→Prop):wp cf c44_r1 (mkf 137 [(1,a1),(2,a2),(3,a3),(4,a4),(5,a5),(6,a6),(7,a7),(36,a36),(104,a104),(121,a121)]) S Q=s44_r1 cf a1 a2 a3 a4 a5 a6 a7 a36 a104 a121 S Q:=wpS_of (by kernel_rfl)
def s44_0 (cf:CallF) (a1:D) (a2:D) (a3:D) (a4:D) (a5:D) (a6:D) (a7:D) (a36:D) (a104:D) (a121:D) (S:Store) (Q:Ex→List D→Store→Prop):Prop:=
 OX (lenD false a6) fun x6=>
 OX (binD .lss .num a7 x6) fun x7=>
 WB x7
 (OX (iaD 1 a6 a7) fun x8=>
 OX (ldD S 1 false x8) fun x9=>
 OX (binD .add .num a7 (.i .i64 2)) fun x10=>
 OX (binD .neq .num x9 x10) fun x11=>
 WB x11
 (Q .ret (mkf 137 [(1,.top),(2,(.b false)),(3,a3),(4,a4),(5,a5),(6,.top),(7,.top),(36,a36),(104,a104),(121,.top)]) S)
 (OX (binD .add .num a7 (.i .i64 1)) fun x12=>
 Q .normal (mkf 137 [(1,a1),(2,a2),(3,a3),(4,a4),(5,a5),(6,a6),(7,x12),(36,a36),(104,a104),(121,.top)]) S))
 (Q (.exit 4) (mkf 137 [(1,a1),(2,a2),(3,a3),(4,a4),(5,a5),(6,a6),(7,a7),(36,a36),(104,a104),(121,x7)]) S)
theorem e44_0 (cf:CallF) (a1:D) (a2:D) (a3:D) (a4:D) (a5:D) (a6:D) (a7:D) (a36:D) (a104:D) (a121:D) (S:Store) (Q:Ex→List D→Store→Prop):wp cf c44_0 (fkill (mkf 137 [(1,a1),(2,a2),(3,a3),(4,a4),(5,a5),(6,a6),(7,a7),(36,a36),(104,a104),(121,a121)]) []) S Q=s44_0 cf a1 a2 a3 a4 a5 a6 a7 a36 a104 a121 S Q:=wpS_of (by kernel_rfl)
def s44_r0 (cf:CallF) (a1:D) (a2:D) (a3:D) (a4:D) (a5:D) (a6:D) (a7:D) (a36:D) (a104:D) (a121:D) (S:Store) (Q:Ex→List D→Store→Prop):Prop:=
 OX (binD .add .num a3 (.i .i64 1)) fun x13=>
 Q .normal (mkf 137 [(1,a1),(2,a2),(3,x13),(4,.top),(5,.top),(6,a6),(7,a7),(36,a36),(104,.top),(121,a121)]) S
theorem e44_r0 (cf:CallF) (a1:D) (a2:D) (a3:D) (a4:D) (a5:D) (a6:D) (a7:D) (a36:D) (a104:D) (a121:D) (S:Store) (Q:Ex→List D→Store→Prop):wp cf c44_r0 (mkf 137 [(1,a1),(2,a2),(3,a3),(4,a4),(5,a5),(6,a6),(7,a7),(36,a36),(104,a104),(121,a121)]) S Q=s44_r0 cf a1 a2 a3 a4 a5 a6 a7 a36 a104 a121 S Q:=wpS_of (by kernel_rfl)
def s44_1 (cf:CallF) (a1:D) (a2:D) (a3:D) (a4:D) (a5:D) (a6:D) (a7:D) (a36:D) (a104:D) (a121:D) (S:Store) (Q:Ex→List D→Store→Prop):Prop:=
 OX (binD .lss .num a5 a3) fun x14=>
 WB x14
 (OX (faD 1 a1) fun x15=>
 OX (ldD S 1 false x15) fun x16=>
 OX (iaD 3 x16 a5) fun x17=>
 OX (ldD S 3 true x17) fun x18=>
 OX (ldD S 3 true a4) fun x19=>
 OX (binD .eql (.agg [.i,.i,.i]) x18 x19) fun x20=>
 WB x20
 (Q .ret (mkf 137 [(1,.top),(2,(.b false)),(3,.top),(4,.top),(5,.top),(6,a6),(7,a7),(36,a36),(104,.top),(121,a121)]) S)
 (OX (binD .add .num a5 (.i .i64 1)) fun x21=>
 Q .normal (mkf 137 [(1,a1),(2,a2),(3,a3),(4,a4),(5,x21),(6,a6),(7,a7),(36,a36),(104,.top),(121,a121)]) S))
 (Q (.exit 2) (mkf 137 [(1,a1),(2,a2),(3,a3),(4,a4),(5,a5),(6,a6),(7,a7),(36,a36),(104,x14),(121,a121)]) S)
theorem e44_1 (cf:CallF) (a1:D) (a2:D) (a3:D) (a4:D) (a5:D) (a6:D) (a7:D) (a36:D) (a104:D) (a121:D) (S:Store) (Q:Ex→List D→Store→Prop):wp cf c44_1 (fkill (mkf 137 [(1,a1),(2,a2),(3,a3),(4,a4),(5,a5),(6,a6),(7,a7),(36,a36),(104,a104),(121,a121)]) []) S Q=s44_1 cf a1 a2 a3 a4 a5 a6 a7 a36 a104 a121 S Q:=wpS_of (by kernel_rfl)
def s44_r2 (cf:CallF) (a1:D) (a2:D) (a3:D) (a4:D) (a5:D) (a6:D) (a7:D) (a36:D) (a104:D) (a121:D) (S:Store) (Q:Ex→List D→Store→Prop):Prop:=
 OX (ldD S 3 true a1) fun x22=>
 OX (faD 2 a1) fun x23=>
 OX (ldD S 1 false x23) fun x24=>
 OX (cf 98 [x22,x24,(.sl 1 true [] .ro)] S) fun p26=>
 W cf (.loop [] c44_0) (mkf 137 [(1,a1),(2,a2),(3,.top),(4,a4),(5,a5),(6,p26.1),(7,(.i .i64 0)),(36,.top),(104,a104),(121,a121)]) p26.2 (Qblk 4 (QS cf c44_r1 Q))
theorem e44_r2 (cf:CallF) (a1:D) (a2:D) (a3:D) (a4:D) (a5:D) (a6:D) (a7:D) (a36:D) (a104:D) (a121:D) (S:Store) (Q:Ex→List D→Store→Prop):wp cf c44_r2 (mkf 137 [(1,a1),(2,a2),(3,a3),(4,a4),(5,a5),(6,a6),(7,a7),(36,a36),(104,a104),(121,a121)]) S Q=s44_r2 cf a1 a2 a3 a4 a5 a6 a7 a36 a104 a121 S Q:=wpS_of (by kernel_rfl)
def s44_2 (cf:CallF) (a1:D) (a2:D) (a3:D) (a4:D) (a5:D) (a6:D) (a7:D) (a36:D) (a104:D) (a121:D) (S:Store) (Q:Ex→List D→Store→Prop):Prop:=
 OX (faD 1 a1) fun x27=>
 OX (ldD S 1 false x27) fun x28=>
 OX (lenD false x28) fun x29=>
 OX (binD .lss .num a3 x29) fun x30=>
 WB x30
 (OX (faD 1 a1) fun x31=>
 OX (ldD S 1 false x31) fun x32=>
 OX (iaD 3 x32 a3) fun x33=>
 OX (ldD S 3 true x33) fun x34=>
 al [.i .i64 0,.i .i64 0,.i .i64 0] S fun x35 S36=>
 OX (stD S36 3 true x35 x34) fun S38=>
 OX (faD 0 x35) fun x39=>
 OX (ldD S38 1 false x39) fun x40=>
 OX (binD .lss .num x40 (.i .i64 0)) fun x41=>
 OX (gsel x41 false (faD 0 x35)) fun x42=>
 OX (gsel x41 false (ldD S38 1 false x42)) fun x43=>
 OX (gsel x41 false (faD 0 a1)) fun x44=>
 OX (gsel x41 false (ldD S38 1 false x44)) fun x45=>
 OX (gsel x41 false (lenD false x45)) fun x46=>
 OX (gsel x41 false (binD .geq .num x43 x46)) fun x47=>
 OX (pickD x41 (.b true) x47) fun x48=>
 OX (gsel x48 false (faD 1 x35)) fun x49=>
 OX (gsel x48 false (ldD S38 1 false x49)) fun x50=>
 OX (gsel x48 false (binD .lss .num x50 (.i .i64 0))) fun x51=>
 OX (pickD x48 (.b true) x51) fun x52=>
 OX (gsel x52 false (faD 2 x35)) fun x53=>
 OX (gsel x52 false (ldD S38 1 false x53)) fun x54=>
 OX (gsel x52 false (binD .lss .num x54 (.i .i64 0))) fun x55=>
 OX (pickD x52 (.b true) x55) fun x56=>
 OX (gsel x56 false (faD 1 x35)) fun x57=>
 OX (gsel x56 false (ldD S38 1 false x57)) fun x58=>
 OX (gsel x56 false (some a3)) fun x59=>
 OX (gsel x56 false (binD .add .num x59 (.i .i64 2))) fun x60=>
 OX (gsel x56 false (binD .geq .num x58 x60)) fun x61=>
 OX (pickD x56 (.b true) x61) fun x62=>
 OX (gsel x62 false (faD 2 x35)) fun x63=>
 OX (gsel x62 false (ldD S38 1 false x63)) fun x64=>
 OX (gsel x62 false (some a3)) fun x65=>
 OX (gsel x62 false (binD .add .num x65 (.i .i64 2))) fun x66=>
 OX (gsel x62 false (binD .geq .num x64 x66)) fun x67=>
 OX (pickD x62 (.b true) x67) fun x68=>
 OX (gsel x68 false (faD 1 x35)) fun x69=>
 OX (gsel x68 false (ldD S38 1 false x69)) fun x70=>
 OX (gsel x68 false (faD 2 x35)) fun x71=>
 OX (gsel x68 false (ldD S38 1 false x71)) fun x72=>
 OX (gsel x68 false (binD .eql .num x70 x72)) fun x73=>
 OX (pickD x68 (.b true) x73) fun x74=>
 WB x74
 (Q .ret (mkf 137 [(1,.top),(2,(.b false)),(3,.top),(4,.top),(5,a5),(6,a6),(7,a7),(36,.top),(104,a104),(121,a121)]) S38)
 (OX (ldD S38 3 true a1) fun x75=>
 OX (faD 1 x35) fun x76=>
 OX (ldD S38 1 false x76) fun x77=>
 OX (isoCall cf 97 [x75,x77]) fun x78=>
 OX (faD 0 x35) fun x79=>
 OX (ldD S38 1 false x79) fun x80=>
 OX (binD .leq .num x78 x80) fun x81=>
 OX (gsel x81 false (ldD S38 3 true a1)) fun x82=>
 OX (gsel x81 false (faD 2 x35)) fun x83=>
 OX (gsel x81 false (ldD S38 1 false x83)) fun x84=>
 OX (gsel x81 false (isoCall cf 97 [x82,x84])) fun x85=>
 OX (gsel x81 false (faD 0 x35)) fun x86=>
 OX (gsel x81 false (ldD S38 1 false x86)) fun x87=>
 OX (gsel x81 false (binD .leq .num x85 x87)) fun x88=>
 OX (pickD x81 (.b true) x88) fun x89=>
 WB x89
 (Q .ret (mkf 137 [(1,.top),(2,(.b false)),(3,.top),(4,.top),(5,a5),(6,a6),(7,a7),(36,.top),(104,a104),(121,a121)]) S38)
 (W cf (.loop [] c44_1) (mkf 137 [(1,a1),(2,a2),(3,a3),(4,x35),(5,(.i .i64 0)),(6,a6),(7,a7),(36,.top),(104,a104),(121,a121)]) S38 (Qblk 2 (Qblk 1 (QS cf c44_r0 Q))))))
 (Q (.exit 0) (mkf 137 [(1,a1),(2,a2),(3,a3),(4,a4),(5,a5),(6,a6),(7,a7),(36,x30),(104,a104),(121,a121)]) S)
theorem e44_2 (cf:CallF) (a1:D) (a2:D) (a3:D) (a4:D) (a5:D) (a6:D) (a7:D) (a36:D) (a104:D) (a121:D) (S:Store) (Q:Ex→List D→Store→Prop):wp cf c44_2 (fkill (mkf 137 [(1,a1),(2,a2),(3,a3),(4,a4),(5,a5),(6,a6),(7,a7),(36,a36),(104,a104),(121,a121)]) []) S Q=s44_2 cf a1 a2 a3 a4 a5 a6 a7 a36 a104 a121 S Q:=wpS_of (by kernel_rfl)
def s44 (cf:CallF) (a0:D) (S:Store) (Post:D→Store→Prop):Prop:=
 bxx 3 true a0 S fun x90 S91=>
 OX (faD 0 x90) fun x92=>
 OX (ldD S91 1 false x92) fun x93=>
 OX (isoCall cf 96 [x93]) fun x94=>
 OX (unD .not x94) fun x95=>
 OX (gsel x95 false (faD 1 x90)) fun x96=>
 OX (gsel x95 false (ldD S91 1 false x96)) fun x97=>
 OX (gsel x95 false (lenD false x97)) fun x98=>
 OX (gsel x95 false (binD .gtr .num x98 (.i .i64 4096))) fun x99=>
 OX (pickD x95 (.b true) x99) fun x100=>
 OX (gsel x100 false (faD 2 x90)) fun x101=>
 OX (gsel x100 false (ldD S91 1 false x101)) fun x102=>
 OX (gsel x100 false (binD .lss .num x102 (.i .i64 0))) fun x103=>
 OX (pickD x100 (.b true) x103) fun x104=>
 OX (gsel x104 false (faD 2 x90)) fun x105=>
 OX (gsel x104 false (ldD S91 1 false x105)) fun x106=>
 OX (gsel x104 false (faD 1 x90)) fun x107=>
 OX (gsel x104 false (ldD S91 1 false x107)) fun x108=>
 OX (gsel x104 false (lenD false x108)) fun x109=>
 OX (gsel x104 false (binD .add .num x109 (.i .i64 2))) fun x110=>
 OX (gsel x104 false (binD .geq .num x106 x110)) fun x111=>
 OX (pickD x104 (.b true) x111) fun x112=>
 WB x112
 (Post (.b false) S91)
 (W cf (.loop [] c44_2) (mkf 137 [(1,x90),(2,.top),(3,(.i .i64 0)),(4,.top),(5,.top),(6,.top),(7,.top),(36,.top),(104,.top),(121,.top)]) S91 (Qblk 0 (QS cf c44_r2 (FinK [.t 2] Post))))
theorem e44 (cf:CallF) (a0:D) (S:Store) (Post:D→Store→Prop):wp cf c44 (frame0 d44 [a0]) S (FinK d44.res Post)=s44 cf a0 S Post:=wpS_of (by kernel_rfl)
theorem i44 (a0:D) (r:D) (ha:noRefL (stripL [a0])=true) (hr:noRef r=true) (h:s44 (call dp) (strip a0) [] fun d _=>stripT d=r):isoCall (call dp) 44 [a0]=some r:=iso_s (f:=d44) rfl ⟨rfl,by decide⟩ ha hr (by rw [←e44] at h;exact h)
end Go.Proofs.YtjniafcnjbbomaaGreatDoor.DE

namespace Go.Proofs.YtjniafcnjbbomaaGreatDoor.BT
inductive T where
 | leaf (b:Bool)
 | node (v:Nat) (l h:T)
abbrev Nd:=Int × Int × Int
noncomputable instance:DecidableEq T:=fun _ _=>Classical.propDecidable _
def T.size:T→Nat
 | .leaf _=>0
 | .node _ l h=>l.size+h.size+1
noncomputable def pos:List T→T→Nat
 | [],_=>0
 | x::l,t=>if x=t then 0 else pos l t+1
theorem pos_lt {t:T}:∀ {L:List T},t∈L→pos L t<L.length
 | x::l,h=>by
  unfold pos
  split
  ·simp
  ·rename_i hx
   rcases List.mem_cons.1 h with h | h
   ·exact absurd h.symm hx
   ·simpa using pos_lt h
theorem pos_get {t:T}:∀ {L:List T},t∈L→L[pos L t]? = some t
 | x::l,h=>by
  unfold pos
  split
  ·rename_i hx;simp [hx]
  ·rename_i hx
   rcases List.mem_cons.1 h with h | h
   ·exact absurd h.symm hx
   ·simpa using pos_get h
theorem pos_app {t:T} (M:List T):∀ {L:List T},t∈L→pos (L++M) t=pos L t
 | x::l,h=>by
  simp only [List.cons_append,pos]
  split
  ·rfl
  ·rename_i hx
   rcases List.mem_cons.1 h with h | h
   ·exact absurd h.symm hx
   ·rw [pos_app M h]
theorem pos_new {t:T} (M:List T):∀ {L:List T},t ∉ L→pos (L++t::M) t=L.length
 | [],_=>by simp [pos]
 | x::l,h=>by
  simp only [List.cons_append,pos]
  split
  ·rename_i hx;exact absurd (by simp [hx]) h
  ·rw [pos_new M (fun k=>h (List.mem_cons_of_mem _ k))];rfl
theorem pos_inj {L:List T} {t s:T} (ht:t∈L) (hs:s∈L) (h:pos L t=pos L s):t=s:=by
 have a:=pos_get ht
 rw [h,pos_get hs] at a
 injection a with a
 exact a.symm
noncomputable def code (L:List T):T→Int
 | .leaf b=>if b then 1 else 0
 | .node v l h=>(pos L (.node v l h):Int)+2
def sub (L:List T):T→Prop
 | .leaf _=>True
 | .node v l h=>.node v l h∈L
theorem sub_mono {L M:List T} (h:∀ t,t∈L→t∈M):∀ {t:T},sub L t→sub M t
 | .leaf _,_=>trivial
 | .node _ _ _,k=>h _ k
theorem sub_app {L:List T} (M:List T) {t:T} (h:sub L t):sub (L++M) t:=sub_mono (fun _ k=>List.mem_append_left _ k) h
theorem code_app {L:List T} (M:List T):∀ {t:T},sub L t→code (L++M) t=code L t
 | .leaf _,_=>rfl
 | .node _ _ _,h=>by simp only [code];rw [pos_app M h]
theorem code_inj {L:List T}:∀ {t s:T},sub L t→sub L s→code L t=code L s→t=s
 | .leaf a,.leaf b,_,_,h=>by cases a <;> cases b <;> simp [code] at h ⊢
 | .leaf a,.node _ _ _,_,_,h=>by cases a <;> simp only [code] at h <;> simp at h <;> omega
 | .node _ _ _,.leaf b,_,_,h=>by cases b <;> simp only [code] at h <;> simp at h <;> omega
 | .node _ _ _,.node _ _ _,ht,hs,h=>pos_inj ht hs (by simp only [code] at h;omega)
theorem code_lt {L:List T}:∀ {t:T},sub L t→code L t<L.length+2
 | .leaf a,_=>by cases a <;> simp [code] <;> omega
 | .node _ _ _,h=>by simp only [code];have:=pos_lt h;omega
theorem code_leaf_lt (L:List T) (b:Bool):code L (.leaf b)<2:=by cases b <;> simp [code]
theorem code_node_ge (L:List T) (v:Nat) (l h:T):2≤code L (.node v l h):=by simp only [code];omega
noncomputable def nd (L:List T):T→Nd
 | .leaf _=>(0,0,0)
 | .node v l h=>((v:Int),code L l,code L h)
def kids (L:List T):T→Prop
 | .leaf _=>False
 | .node _ l h=>sub L l∧sub L h
theorem kids_mono {L M:List T} (h:∀ t,t∈L→t∈M):∀ {t:T},kids L t→kids M t
 | .leaf _,k=>k
 | .node _ _ _,k=>⟨sub_mono h k.1,sub_mono h k.2⟩
def ClR:List T→Prop
 | []=>True
 | t::R=>ClR R∧t ∉ R∧kids R t
def Cl (L:List T):Prop:=ClR L.reverse
theorem Cl_nil:Cl []:=trivial
theorem Cl_snoc {L:List T} {t:T}:Cl (L++[t])↔Cl L∧t ∉ L∧kids L t:=by
 have a:t ∉ L.reverse↔t ∉ L:=by simp
 have b:kids L.reverse t↔kids L t:=⟨kids_mono (fun _ h=>by simpa using h),kids_mono (fun _ h=>by simpa using h)⟩
 simp only [Cl,List.reverse_append,List.reverse_cons,List.reverse_nil,List.nil_append,List.singleton_append,ClR,a,b]
theorem snoc_ind {α:Type} {P:List α→Prop} (h0:P []) (h1:∀ L t,P L→P (L++[t])) (L:List α):P L:=by
 have:∀ R:List α,P R.reverse:=by
  intro R
  induction R with
  | nil=>exact h0
  | cons t R ih=>rw [List.reverse_cons];exact h1 _ _ ih
 have:=this L.reverse
 rwa [List.reverse_reverse] at this
theorem Cl_kids {L:List T}:Cl L→∀ t,t∈L→kids L t:=by
 induction L using snoc_ind with
 | h0=>intro _ t h;cases h
 | h1 L s ih=>
  intro h t ht
  obtain ⟨h1,_,h3⟩:=Cl_snoc.1 h
  rcases List.mem_append.1 ht with k | k
  ·exact kids_mono (fun _ q=>List.mem_append_left _ q) (ih h1 t k)
  ·rw [List.mem_singleton.1 k];exact kids_mono (fun _ q=>List.mem_append_left _ q) h3
theorem nd_app {L:List T} (M:List T):∀ {t:T},kids L t→nd (L++M) t=nd L t
 | .node _ _ _,h=>by simp only [nd];rw [code_app M h.1,code_app M h.2]
theorem nd_inj {L:List T}:∀ {t s:T},kids L t→kids L s→nd L t=nd L s→t=s
 | .node _ _ _,.node _ _ _,ht,hs,h=>by
  simp only [nd,Prod.mk.injEq] at h
  rw [code_inj ht.1 hs.1 h.2.1,code_inj ht.2 hs.2 h.2.2]
  have:=h.1
  congr 1
  omega
noncomputable def nds (L:List T):List Nd:=L.map (nd L)
theorem nds_len (L:List T):(nds L).length=L.length:=by simp [nds]
theorem nds_snoc {L:List T} {t:T} (h:Cl (L++[t])):nds (L++[t])=nds L++[nd L t]:=by
 obtain ⟨h1,_,h3⟩:=Cl_snoc.1 h
 simp only [nds,List.map_append,List.map_cons,List.map_nil,nd_app [t] h3]
 congr 1
 apply List.map_congr_left
 intro s hs
 exact nd_app [t] (Cl_kids h1 s hs)
theorem nds_get {L:List T} {t:T} (h:t∈L):(nds L)[pos L t]? = some (nd L t):=by
 simp [nds,pos_get h]
theorem nds_mem {L:List T} (h:Cl L) {t:T} (k:kids L t):nd L t∈nds L↔t∈L:=by
 constructor
 ·intro m
  obtain ⟨s,hs,e⟩:=List.mem_map.1 m
  rw [←nd_inj (Cl_kids h s hs) k e];exact hs
 ·exact fun m=>List.mem_map.2 ⟨t,m,rfl⟩
noncomputable def post:T→List T→List T
 | .leaf _,M=>M
 | .node v l h,M=>if .node v l h∈M then M else post h (post l M)++[.node v l h]
def Her (P:T→Prop):Prop:=∀ v l h,P (.node v l h)→P l∧P h
theorem size_her (n:Nat):Her (fun t=>t.size≤n):=by
 intro v l h k
 simp only [T.size] at k
 constructor <;> omega
theorem post_spec:∀ (t:T) (M:List T),Cl M→∃ N,post t M=M++N∧Cl (M++N)∧sub (M++N) t∧(∀ P,Her P→P t→∀ s,s∈N→P s)∧N.length≤t.size
 | .leaf _,M,h=>⟨[],by simp [post],by simpa using h,trivial,(fun _ _ _ _ k=>by cases k),by simp⟩
 | .node v l h,M,hM=>by
  unfold post
  by_cases hm : .node v l h∈M
  ·rw [if_pos hm]
   exact ⟨[],by simp,by simpa using hM,by simpa [sub] using hm,(fun _ _ _ _ k=>by cases k),by simp⟩
  ·rw [if_neg hm]
   obtain ⟨N1,e1,c1,s1,p1,z1⟩:=post_spec l M hM
   rw [e1]
   obtain ⟨N2,e2,c2,s2,p2,z2⟩:=post_spec h (M++N1) c1
   rw [e2]
   refine ⟨N1++N2++[.node v l h],by simp,?_,by simp [sub],?_,by simp only [List.length_append,List.length_singleton,T.size];omega⟩
   ·have:M++(N1++N2++[T.node v l h])=M++N1++N2++[T.node v l h]:=by simp
    rw [this]
    refine Cl_snoc.2 ⟨c2,?_,sub_app _ s1,s2⟩
    intro k
    rcases List.mem_append.1 k with k | k
    ·rcases List.mem_append.1 k with k | k
     ·exact hm k
     ·have:=p1 _ (size_her l.size) (Nat.le_refl _) _ k
      simp only [T.size] at this;omega
    ·have:=p2 _ (size_her h.size) (Nat.le_refl _) _ k
     simp only [T.size] at this;omega
   ·intro P hP hp s hs
    rcases List.mem_append.1 hs with hs | hs
    ·rcases List.mem_append.1 hs with hs | hs
     ·exact p1 P hP (hP _ _ _ hp).1 s hs
     ·exact p2 P hP (hP _ _ _ hp).2 s hs
    ·rw [List.mem_singleton.1 hs];exact hp
def top (n:Nat):T→Nat
 | .leaf _=>n
 | .node v _ _=>v
def Wf (n:Nat):T→Prop
 | .leaf _=>True
 | .node v l h=>v<n∧v<top n l∧v<top n h∧l≠h∧Wf n l∧Wf n h
def fn:T→(Nat→Bool)→Bool
 | .leaf b,_=>b
 | .node v l h,s=>if s v then fn h s else fn l s
def lev (n:Nat) (ns:List Nd) (r:Int):Int:=if r<2 then n else (ns[(r-2).toNat]?.getD (0,0,0)).1
def okNd (n:Nat) (ns:List Nd) (x:Nd):Prop:=
 (0≤x.1∧x.1<n)∧((0≤x.2.1∧x.2.1<ns.length+2)∧(0≤x.2.2∧x.2.2<ns.length+2))∧x.2.1≠x.2.2∧(x.1<lev n ns x.2.1∧x.1<lev n ns x.2.2)∧x ∉ ns
def ShR (n:Nat):List Nd→Prop
 | []=>True
 | x::R=>ShR n R∧okNd n R.reverse x
def Sh (n:Nat) (ns:List Nd):Prop:=ShR n ns.reverse
theorem Sh_nil (n:Nat):Sh n []:=trivial
theorem Sh_snoc {n:Nat} {ns:List Nd} {x:Nd}:Sh n (ns++[x])↔Sh n ns∧okNd n ns x:=by
 simp [Sh,ShR]
theorem Sh_pre {n:Nat} {ns ms:List Nd}:Sh n (ns++ms)→Sh n ns:=by
 induction ms using snoc_ind with
 | h0=>intro h;simpa using h
 | h1 ms t ih=>intro h;rw [←List.append_assoc] at h;exact ih (Sh_snoc.1 h).1
theorem lev_app {n:Nat} {ns:List Nd} (ms:List Nd) {r:Int} (h:r<ns.length+2):lev n (ns++ms) r=lev n ns r:=by
 unfold lev
 split
 ·rfl
 ·rw [List.getElem?_append_left (by omega)]
theorem lev_code {n:Nat} {L:List T}:∀ {t:T},sub L t→lev n (nds L) (code L t)=top n t
 | .leaf b,_=>by unfold lev;rw [if_pos (code_leaf_lt L b)];rfl
 | .node v l h,k=>by
  unfold lev
  have:=code_node_ge L v l h
  rw [if_neg (by omega)]
  have e:(code L (.node v l h)-2).toNat=pos L (.node v l h):=by simp only [code];omega
  rw [e,nds_get k];rfl
theorem code_all {L:List T} (hc:Cl L) {r:Int} (h0:0≤r) (h1:r<L.length+2):∃ t,sub L t∧code L t=r∧(2≤r→t∈L):=by
 rcases Int.lt_or_le r 2 with h | h
 ·rcases Int.lt_or_le r 1 with k | k
  ·exact ⟨.leaf false,trivial,by simp [code];omega,fun q=>absurd q (by omega)⟩
  ·exact ⟨.leaf true,trivial,by simp [code];omega,fun q=>absurd q (by omega)⟩
 ·have hl:(r-2).toNat<L.length:=by omega
  refine ⟨L[(r-2).toNat],?_,?_,fun _=>List.getElem_mem hl⟩
  ·have m:L[(r-2).toNat]∈L:=List.getElem_mem hl
   have:=Cl_kids hc _ m
   revert this m
   cases L[(r-2).toNat] with
   | leaf _=>intro _ h;exact h.elim
   | node _ _ _=>intro m _;exact m
  ·have m:L[(
         r-2).toNat]∈L:=List.getElem_mem hl
   have hk:=Cl_kids hc _ m
   have hp:pos L L[(r-2).toNat]=(r-2).toNat:=by
    have nodup:∀ {M:List T},Cl M→∀ (i j:Nat) (x:T),M[i]? = some x→M[j]? = some x→i=j:=by
     intro M
     induction M using snoc_ind with
     | h0=>intro _ i j x h;simp at h
     | h1 M s ih=>
      intro hM i j x hi hj
      obtain ⟨c1,c2,_⟩:=Cl_snoc.1 hM
      have get:∀ i,(M++[s])[i]? = some x→(i<M.length∧M[i]? = some x)∨(i=M.length∧x=s):=by
       intro i h
       rcases Nat.lt_or_ge i M.length with q | q
       ·left;rw [List.getElem?_append_left q] at h;exact ⟨q,h⟩
       ·right
        rw [List.getElem?_append_right q] at h
        have:i-M.length=0:=by
         rcases Nat.eq_zero_or_pos (i-M.length) with z | z
         ·exact z
         ·rw [List.getElem?_eq_none (by simp;omega)] at h;cases h
        rw [this] at h
        simp at h
        exact ⟨by omega,h.symm⟩
      rcases get i hi with ⟨a,b⟩ | ⟨a,b⟩ <;> rcases get j hj with ⟨c,d⟩ | ⟨c,d⟩
      ·exact ih c1 i j x b d
      ·subst d;exact absurd (List.mem_of_getElem? b) c2
      ·subst b;exact absurd (List.mem_of_getElem? d) c2
      ·omega
    exact nodup hc _ _ _ (pos_get m) (List.getElem?_eq_getElem hl)
   revert hp hk
   cases L[(r-2).toNat] with
   | leaf _=>intro h;exact h.elim
   | node _ _ _=>intro _ hp;simp only [code,hp];omega
theorem Sh_trees {n:Nat} {ns:List Nd}:Sh n ns→∃ L,Cl L∧ns=nds L∧∀ t,t∈L→Wf n t:=by
 induction ns using snoc_ind with
 | h0=>intro _;exact ⟨[],Cl_nil,rfl,fun _ h=>by cases h⟩
 | h1 ns x ih=>
  intro h
  obtain ⟨h1,⟨hv,hv'⟩,⟨hl,hh⟩,hne,⟨kl,kh⟩,hx⟩:=Sh_snoc.1 h
  obtain ⟨L,hc,e,hw⟩:=ih h1
  subst e
  rw [nds_len] at hl hh
  obtain ⟨l,sl,el,_⟩:=code_all hc hl.1 hl.2
  obtain ⟨t,st,et,_⟩:=code_all hc hh.1 hh.2
  have wf:∀ {t:T},sub L t→Wf n t:=by
   intro t
   cases t with
   | leaf _=>intro _;trivial
   | node _ _ _=>exact fun k=>hw _ k
  rw [←el,lev_code sl] at kl
  rw [←et,lev_code st] at kh
  have hk:kids L (.node x.1.toNat l t):=⟨sl,st⟩
  have hn:nd L (.node x.1.toNat l t)=x:=by
   simp only [nd,el,et]
   rw [Int.toNat_of_nonneg hv]
  have hm:T.node x.1.toNat l t ∉ L:=fun m=>hx (by rw [←hn];exact (nds_mem hc hk).2 m)
  have hc':Cl (L++[.node x.1.toNat l t]):=Cl_snoc.2 ⟨hc,hm,hk⟩
  refine ⟨L++[.node x.1.toNat l t],hc',?_,?_⟩
  ·rw [nds_snoc hc',hn]
  ·intro s hs
   rcases List.mem_append.1 hs with q | q
   ·exact hw s q
   ·rw [List.mem_singleton.1 q]
    refine ⟨by omega,by omega,by omega,?_,wf sl,wf st⟩
    intro e
    apply hne
    rw [←el,←et,e]
theorem nds_inj {L:List T}:∀ {L':List T},Cl L→Cl L'→nds L=nds L'→L=L':=by
 induction L using snoc_ind with
 | h0=>
  intro L' _ _ e
  have:=congrArg List.length e
  rw [nds_len,nds_len] at this
  exact (List.length_eq_zero_iff.1 this.symm).symm
 | h1 L t ih=>
  intro L'
  induction L' using snoc_ind with
  | h0=>
   intro _ _ e
   have:=congrArg List.length e
   rw [nds_len,nds_len] at this
   simp at this
  | h1 L' t' _=>
   intro h h' e
   rw [nds_snoc h,nds_snoc h'] at e
   obtain ⟨e1,e2⟩:=List.append_inj' e rfl
   obtain ⟨a,_,a3⟩:=Cl_snoc.1 h
   obtain ⟨b,_,b3⟩:=Cl_snoc.1 h'
   have:=ih a b e1
   subst this
   simp only [List.cons.injEq,and_true] at e2
   rw [nd_inj a3 b3 e2]
def Cano (ns:List Nd) (root:Int) (t:T):Prop:=ns=nds (post t [])∧root=code (post t []) t
theorem Cano_iff {L:List T} (hc:Cl L) {t:T} (ht:sub L t):(∃ t',Cano (nds L) (code L t) t')↔post t []=L:=by
 constructor
 ·rintro ⟨t',e1,e2⟩
  obtain ⟨N,e,c,s,_⟩:=post_spec t' [] Cl_nil
  rw [List.nil_append] at e c s
  rw [e] at e1 e2
  have:=nds_inj hc c e1
  subst this
  rw [←code_inj ht s e2] at e
  exact e
 ·intro e
  exact ⟨t,by rw [Cano,e];exact ⟨rfl,rfl⟩⟩
theorem code_get {L:List T} (hc:Cl L) {k:Nat} {y:T} (h:L[k]? = some y):code L y=k+2:=by
 have hk:k<L.length:=by
  rcases Nat.lt_or_ge k L.length with q | q
  ·exact q
  ·rw [List.getElem?_eq_none q] at h;cases h
 obtain ⟨t,ht,e,hm⟩:=code_all hc (r:=k+2) (by omega) (by omega)
 have m:=hm (by omega)
 have g:=pos_get m
 have:pos L t=k:=by
  have:=Cl_kids hc t m
  revert this e
  cases t with
  | leaf _=>exact fun _ h=>h.elim
  | node _ _ _=>intro e _;simp only [code] at e;omega
 rw [this,h] at g
 injection g with g
 rw [g];exact e
end Go.Proofs.YtjniafcnjbbomaaGreatDoor.BT

namespace Go.Proofs.YtjniafcnjbbomaaGreatDoor.DE.V
open Go BT
theorem v52r (r:Row):isoCall (call dp) 52 [.agg (eRow r)]=some (.b (rowOk r)):=by
 rw [v52];simp [rowOk]
theorem v54r (r:Row):isoCall (call dp) 54 [.agg (eRow r)]=some (.b (rowOk r)):=by
 rw [v54];simp [rowOk]
theorem v158 (nl nl':Bool) (ord:List Row) (ns:List Nd) (root r:Int) (h0:in64 r) (h:r<ns.length+2):isoCall (call dp) 158 [eB nl nl' ord ns root,.i .i64 r]=some (.i .i64 (lev ord.length ns r)):=by
 apply i158 _ _ _ (by simp [noRefL,noRef]) rfl
 simp [s158]
 split
 ·simp [lev, *]
 ·obtain ⟨x,hx⟩:∃ x,ns[(r-2).toNat]? = some x:=⟨_,List.getElem?_eq_getElem (by omega)⟩
  rw [wrap64 (n:=r-2) ⟨by have:=h0.1;have:=h0.2;omega,by have:=h0.2;omega⟩,iaD_nds' _ (by omega) hx]
  simp [lev, *]
theorem v97 (nl nl':Bool) (ord:List Row) (ns:List Nd) (root r:Int) (h0:in64 r) (h:r<ns.length+2):isoCall (call dp) 97 [eB nl nl' ord ns root,.i .i64 r]=some (.i .i64 (lev ord.length ns r)):=by
 apply i97 _ _ _ (by simp [noRefL,noRef]) rfl
 simp [s97]
 split
 ·simp [lev, *]
 ·obtain ⟨x,hx⟩:∃ x,ns[(r-2).toNat]? = some x:=⟨_,List.getElem?_eq_getElem (by omega)⟩
  rw [wrap64 (n:=r-2) ⟨by have:=h0.1;have:=h0.2;omega,by have:=h0.2;omega⟩,iaD_nds' _ (by omega) hx]
  simp [lev, *]
theorem v92 (nl nl':Bool) (l m:List Nd) (hb:Bd m.length):isoCall (call dp) 92 [eNds nl l,eNds nl' m]=some (.b (decide (l=m))):=by
 apply i92 _ _ _ (by simp [noRefL]) rfl
 simp [s92]
 by_cases hl:l.length=m.length
 ·simp only [hl,if_true]
  let J:Nat→List D→Store→Prop:=fun q fr S=>∃ k a4 a14,k+q=m.length∧l.take k=m.take k∧S=[]∧fr=mkf 26 [(0,eNds nl l),(1,eNds nl' m),(4,a4),(12,.i .i64 m.length),(13,.i .i64 k),(14,a14)]
  refine W_loop J ?_ m.length _ _ ⟨0,_,_,by simp,by simp,rfl,rfl⟩
  rintro q fr S ⟨k,a4,a14,hk,he,rfl,rfl⟩
  rw [←wp_W,e92_0]
  simp [s92_0]
  split
  ·rename_i h
   obtain ⟨x,hx⟩:∃ x,l[k]? = some x:=⟨_,List.getElem?_eq_getElem (by omega)⟩
   obtain ⟨y,hy⟩:∃ x,m[k]? = some x:=⟨_,List.getElem?_eq_getElem (by omega)⟩
   simp [iaD_nds _ hx,iaD_nds _ hy]
   by_cases hxy:x=y
   ·subst hxy
    simp [wrapS (hb.lt (Nat.le_of_lt h))]
    exact ⟨q-1,by omega,k+1,_,_,by omega,take_next he hx hy,rfl,rfl⟩
   ·simp [hxy]
    exact fun e=>hxy (by rw [e,hy] at hx;injection hx with hx;exact hx.symm)
  ·simp [e92_r0,s92_r0]
   exact take_full he (by omega) (by omega)
 ·rw [if_neg (by omega)]
  exact fun h=>hl (by rw [h])
theorem v159 (nl:Bool) (l:List Row) (h:nl=true→l=[]) (hb:l.length≤maxLenD):isoCall (call dp) 159 [eRows nl l]=some (eRows nl l):=by
 apply i159 _ _ (by simp [noRefL]) (by simp)
 simp [s159]
 split
 ·rename_i hn
  subst hn
  rw [h rfl];rfl
 ·rename_i hn
  have hn:nl=false:=by simpa using hn
  subst hn
  have h1:(l.map eRow).length≤maxLenD:=by simpa using hb
  simp only [eRows,cellsV_nil,OX_some,bslO_nil,app_cap0 _ h1]
  split
  ·rename_i e;rw [e];rfl
  ·rfl
def OrdOk (l:List Row):Prop:=(∀ r,r∈l→rowOk r=true)∧l.Nodup
open Classical in
theorem v89 (nl:Bool) (l:List Row) (hb:Bd l.length):isoCall (call dp) 89 [eRows nl l]=some (.b (decide (OrdOk l∧l.length≤4096))):=by
 apply i89 _ _ (by simp [noRefL]) rfl
 simp [s89]
 let J:Nat→List D→Store→Prop:=fun q fr S=>∃ k a2 a10,k+q=l.length∧OrdOk (l.take k)∧sget S 0=some (.map (eMap (fun r:Row=>.agg (eRow r)) D.b ((l.take k).map fun r=>(r,true))))∧fr=mkf 27 [(0,eRows nl l),(2,a2),(3,.mp 0),(7,eRows nl l),(8,.i .i64 l.length),(9,.i .i64 k),(10,a10)]
 refine W_loop J ?_ l.length _ _ ⟨0,_,_,by simp,by simp [OrdOk],rfl,rfl⟩
 rintro q fr S ⟨k,a2,a10,hk,ho,hS,rfl⟩
 rw [←wp_W,e89_0]
 have hlt:=sget_lt hS
 have hne:S≠[]:=by intro e;simp [e] at hlt
 simp [s89_0]
 split
 ·rename_i h
  obtain ⟨x,hx⟩:∃ x,l[k]? = some x:=⟨_,List.getElem?_eq_getElem (by omega)⟩
  simp [iaD_rows _ hx,v52r,hne,hS]
  have hS':sget (Ent.box (eRow x)::S) 0=_:=sget_push hS
  have hin:x∈l.take k∨assoc x ((l.take k).map fun r=>(r,true))=none:=by
   by_cases hm:x∈l.take k
   ·exact .inl hm
   ·right
    rw [assoc_none]
    intro p hp e
    obtain ⟨y,hy,rfl⟩:=List.mem_map.1 hp
    exact hm (e ▸ hy)
  have ht:l.take (k+1)=l.take k++[x]:=by rw [List.take_add_one,hx];rfl
  have hin':¬OrdOk (l.take (k+1))→¬OrdOk l:=by
   intro h1 h2
   exact h1 ⟨fun r hr=>h2.1 r (List.mem_of_mem_take hr),h2.2.sublist (List.take_sublist _ _)⟩
  split
  ·rename_i hr
   rcases hin with hm | ha
   ·have hx':assoc x ((l.take k).map fun r=>(r,true))=some true:=by
     cases ha:assoc x ((l.take k).map fun r=>(r,true)) with
     | none=>exact absurd rfl (assoc_none.1 ha (x,true) (List.mem_map.2 ⟨x,hm,rfl⟩))
     | some b=>
      have:∀ (m:List Row) b,assoc x (m.map fun r=>(r,true))=some b→b=true:=by
       intro m
       induction m with
       | nil=>intro b h;cases h
       | cons y m ih=>
        intro b h
        simp only [List.map_cons,assoc] at h
        split at h
        ·injection h with h;exact h.symm
        ·exact ih b h
      rw [this _ b ha]
    rw [lkD'_mp keyE_row (a:=x) (isKey_row x) hS',hx']
    simp
    intro ho'
    refine absurd ho' (hin' ?_)
    rw [ht]
    intro h1
    have:=h1.2
    rw [List.nodup_append] at this
    exact this.2.2 x hm x (by simp) rfl
   ·rw [lkD'_mp keyE_row (a:=x) (isKey_row x) hS',ha]
    simp
    rw [muD'_new keyE_row (a:=x) (b:=true) (isKey_row x) hS' ha]
    simp only [OX_some,bin_add,wrapS (hb.lt (Nat.le_of_lt h)),Qseq_normal]
    have hnm:x ∉ l.take k:=fun hm=>(assoc_none.1 ha (x,true) (List.mem_map.2 ⟨x,hm,rfl⟩)) rfl
    refine ⟨q-1,by omega,k+1,_,_,by omega,?_,?_,rfl⟩
    ·rw [ht]
     refine ⟨?_,?_⟩
     ·intro r hr'
      rcases List.mem_append.1 hr' with hr' | hr'
      ·exact ho.1 r hr'
      ·rw [List.mem_singleton.1 hr'];exact hr
     ·rw [List.nodup_append]
      refine ⟨ho.2,by simp,?_⟩
      intro a ha' b hb' e
      rw [List.mem_singleton.1 hb'] at e
      exact hnm (e ▸ ha')
    ·rw [ht,List.map_append]
     exact sget_sset _ (by simp)
  ·rename_i hr
   intro ho'
   exact absurd (ho'.1 x (List.mem_of_getElem? hx)) hr
 ·have:l.take k=l:=List.take_of_length_le (by omega)
  rw [this] at ho
  simp [e89_r0,s89_r0,ho]
  split <;> omega
theorem nodup_snoc {α:Type} {l:List α} {x:α}:(l++[x]).Nodup↔l.Nodup∧x ∉ l:=by
 rw [List.nodup_append]
 constructor
 ·exact fun h=>⟨h.1,fun k=>h.2.2 x k x (by simp) rfl⟩
 ·exact fun h=>⟨h.1,by simp,fun a ha b hb e=>h.2 (by rw [List.mem_singleton.1 hb] at e;exact e ▸ ha)⟩
theorem OrdOk_snoc {l:List Row} {x:Row}:OrdOk (l++[x])↔OrdOk l∧rowOk x=true∧x ∉ l:=by
 simp only [OrdOk,nodup_snoc,List.mem_append,List.mem_singleton]
 constructor
 ·exact fun h=>⟨⟨fun r hr=>h.1 r (.inl hr),h.2.1⟩,h.1 x (.inr rfl),h.2.2⟩
 ·exact fun h=>⟨fun r hr=>hr.elim (h.1.1 r) (fun e=>e ▸ h.2.1),h.1.2,h.2.2⟩
theorem OrdOk_take {l:List Row} (k:Nat) (h:OrdOk l):OrdOk (l.take k):=
 ⟨fun r hr=>h.1 r (List.mem_of_mem_take hr),h.2.sublist (List.take_sublist _ _)⟩
open Classical in
theorem v96 (nl:Bool) (l:List Row) (hb:Bd l.length):isoCall (call dp) 96 [eRows nl l]=some (.b (decide (OrdOk l∧l.length≤4096))):=by
 apply i96 _ _ (by simp [noRefL]) rfl
 simp [s96]
 let J:Nat→List D→Store→Prop:=fun q fr S=>∃ k a2 a4 a8 a19,k+q=l.length∧OrdOk (l.take k)∧fr=mkf 34 [(0,eRows nl l),(2,a2),(3,.i .i64 k),(4,a4),(8,a8),(19,a19)]
 refine W_loop J ?_ l.length _ _ ⟨0,_,_,_,_,by simp,by simp [OrdOk],rfl⟩
 rintro q fr S ⟨k,a2,a4,a8,a19,hk,ho,rfl⟩
 rw [←wp_W,e96_1]
 simp [s96_1]
 split
 ·rename_i h
  obtain ⟨x,hx⟩:∃ x,l[k]? = some x:=⟨_,List.getElem?_eq_getElem (by omega)⟩
  have ht:=take_snoc hx
  simp [iaD_rows _ hx,v54r]
  split
  ·rename_i hr
   let J2:Nat→List D→Store→Prop:=fun q fr S=>∃ j a2 a19,j+q=k∧x ∉ l.take j∧fr=mkf 34 [(0,eRows nl l),(2,a2),(3,.i .i64 k),(4,.i .i64 j),(8,.top),(19,a19)]
   refine W_loop J2 ?_ k _ _ ⟨0,_,_,by simp,by simp,rfl⟩
   rintro q' fr S ⟨j,a2,a19,hj,hn,rfl⟩
   rw [←wp_W,e96_0]
   simp [s96_0]
   split
   ·rename_i hjk
    obtain ⟨y,hy⟩:∃ x,l[j]? = some x:=⟨_,List.getElem?_eq_getElem (by omega)⟩
    simp [iaD_rows _ hx,iaD_rows _ hy]
    split
    ·rename_i e
     intro ho'
     have:=OrdOk_take (k+1) ho'
     rw [ht,OrdOk_snoc] at this
     refine absurd ?_ this.2.2
     have hy':(l.take k)[j]? = some y:=by rw [List.getElem?_take,if_pos hjk];exact hy
     exact e ▸ List.mem_of_getElem? hy'
    ·rename_i e
     simp [wrapS (hb.lt (show j≤l.length by omega))]
     refine ⟨q'-1,by omega,j+1,_,_,by omega,?_,rfl⟩
     rw [take_snoc hy]
     simp [hn]
     exact fun h=>e h.symm
   ·simp [e96_r0,s96_r0,wrapS (hb.lt (Nat.le_of_lt h))]
    refine ⟨q-1,by omega,k+1,_,_,_,_,by omega,?_,rfl⟩
    have:j=k:=by omega
    subst this
    rw [ht,OrdOk_snoc]
    exact ⟨ho,hr,hn⟩
  ·rename_i hr
   intro ho'
   exact absurd (ho'.1 x (List.mem_of_getElem? hx)) hr
 ·have:l.take k=l:=List.take_of_length_le (by omega)
  rw [this] at ho
  simp [e96_r1,s96_r1,ho]
  split <;> omega
end Go.Proofs.YtjniafcnjbbomaaGreatDoor.DE.V

namespace Go.Proofs.YtjniafcnjbbomaaGreatDoor.DE.V
open Go BT
theorem Sh_take {n:Nat} {ns:List Nd} (k:Nat) (h:Sh n ns):Sh n (ns.take k):=Sh_pre (ms:=ns.drop k) (by rwa [List.take_append_drop])
theorem lev_take {n k:Nat} {ns:List Nd} {r:Int} (h:r<k+2) (hk:k≤ns.length):lev n (ns.take k) r=lev n ns r:=by
 have:=lev_app (n:=n) (ns:=ns.take k) (ns.drop k) (r:=r) (by rw [List.length_take];omega)
 rw [List.take_append_drop] at this
 exact this.symm
theorem assoc_true {α:Type} [DecidableEq α] (x:α):∀ l:List α,assoc x (l.map fun r=>(r,true))=if x∈l then some true else none
 | []=>by simp [assoc]
 | y::l=>by
  simp only [List.map_cons,assoc,assoc_true x l,List.mem_cons]
  by_cases h:x=y <;> simp [h]
theorem seenD {α:Type} [DecidableEq α] {kk:KK} {ek:α→D} (h:KeyE kk ek) {a:α} (hk:isKey kk (ek a)=true) {S:Store} {id:Nat} {l:List α} (hS:sget S id=some (.map (eMap ek D.b (l.map fun r=>(r,true))))) :
  lkD' kk false (.b false) S (.mp id) (ek a)=some (.b (decide (a∈l))):=by
 rw [lkD'_mp h hk hS,assoc_true]
 split <;> simp [*]
theorem seenU {α:Type} [DecidableEq α] {kk:KK} {ek:α→D} (h:KeyE kk ek) {a:α} (hk:isKey kk (ek a)=true) {S:Store} {id:Nat} {l:List α} (hS:sget S id=some (.map (eMap ek D.b (l.map fun r=>(r,true))))) (ha:a ∉ l) :
  muD' kk S (.mp id) (ek a) (.b true)=some (sset S id (.map (eMap ek D.b ((l++[a]).map fun r=>(r,true))))):=by
 rw [muD'_new h hk hS (ev:=D.b) (b:=true) (by rw [assoc_true,if_neg ha])]
 simp
open Classical in
theorem v90 (nl nl':Bool) (ord:List Row) (ns:List Nd) (root:Int) (hb:Bd (ns.length+2)) :
  isoCall (call dp) 90 [eB nl nl' ord ns root]=some (.b (decide (Sh ord.length ns∧0≤root∧root<ns.length+2))):=by
 obtain ⟨c,hc⟩:∃ c,c=decide (Sh ord.length ns∧0≤root∧root<ns.length+2):=⟨_,rfl⟩
 rw [←hc]
 apply i90 _ _ (by simp [noRefL]) rfl
 simp [s90]
 let J:Nat→List D→Store→Prop:=fun q fr S=>∃ k a2 a12,k+q=ns.length∧Sh ord.length (ns.take k)∧sget S 0=some (.box [eRows nl ord,eNds nl' ns,.i .i64 root])∧sget S 1=some (.map (eMap (fun r:Nd=>.agg (eNd r)) D.b ((ns.take k).map fun r=>(r,true)))) ∧
  fr=mkf 98 [(1,.bx 0 0),(2,a2),(3,.mp 1),(9,eNds nl' ns),(10,.i .i64 ns.length),(11,.i .i64 k),(12,a12)]
 refine W_loop J ?_ ns.length _ _ ⟨0,_,_,by simp,by simp [Sh_nil],by simp,by simp [eMap],rfl⟩
 rintro q fr S ⟨k,a2,a12,hk,ho,hS0,hS1,rfl⟩
 rw [←wp_W,e90_0]
 simp [s90_0]
 split
 ·rename_i h
  obtain ⟨x,hx⟩:∃ x,ns[k]? = some x:=⟨_,List.getElem?_eq_getElem (by omega)⟩
  have ht:=take_snoc hx
  have hlt:=sget_lt hS1
  have hne:S≠[]:=by intro e;simp [e] at hlt
  have h1ne:¬1=S.length:=by omega
  have h0ne:¬0=S.length:=by omega
  have w2:IntKind.i64.wrap ((k:Int)+2)=k+2:=wrap64 ⟨by omega,by unfold Bd at hb;omega⟩
  have hok:Sh ord.length ns→okNd ord.length (ns.take k) x:=fun hs=>(Sh_snoc.1 (ht ▸ Sh_take (k+1) hs)).2
  have hok':okNd ord.length (ns.take k) x→Sh ord.length (ns.take (k+1)):=fun h=>by rw [ht];exact Sh_snoc.2 ⟨ho,h⟩
  have hl:(ns.take k).length=k:=by rw [List.length_take];omega
  have hS1':sget (Ent.box (eNd x)::S) 1=_:=sget_push hS1
  have hS0':sget (Ent.box (eNd x)::S) 0=_:=sget_push hS0
  have hseen:=seenD keyE_nd (isKey_nd x) hS1'
  by_cases hin:0≤x.2.1∧0≤x.2.2∧x.2.1<k+2∧x.2.2<k+2
  ·obtain ⟨i1,i2,i3,i4⟩:=hin
   have e1:=v158 nl nl' ord ns root x.2.1 ⟨by omega,by unfold Bd at hb;omega⟩ (by omega)
   have e2:=v158 nl nl' ord ns root x.2.2 ⟨by omega,by unfold Bd at hb;omega⟩ (by omega)
   rw [←lev_take i3 (by omega)] at e1
   rw [←lev_take i4 (by omega)] at e2
   simp only [eB] at e1 e2
   by_cases hx':okNd ord.length (ns.take k) x
   ·obtain ⟨⟨c1,c2⟩,-,c3,⟨c4,c5⟩,c6⟩:=hx'
    have hu:=seenU keyE_nd (isKey_nd x) hS1' c6
    have f1:¬x.1<0:=by omega
    have f2:¬(ord.length:Int)≤x.1:=by omega
    have f4:¬lev ord.length (ns.take k) x.2.1≤x.1:=by omega
    have f5:¬lev ord.length (ns.take k) x.2.2≤x.1:=by omega
    simp [-sset_cons,iaD_nds _ hx,w2,hS0,h0ne,i1,i2,i3,i4,e1,e2,f1,f2,c3,f4,f5,c6,hseen,hu,wrapS (show Bd k by unfold Bd at *;omega)]
    refine ⟨q-1,by omega,k+1,_,_,by omega,hok' ⟨⟨c1,c2⟩,by rw [hl];exact ⟨⟨i1,i3⟩,⟨i2,i4⟩⟩,c3,⟨c4,c5⟩,c6⟩,?_,?_,rfl⟩
    ·rw [sget_sset_ne _ (by omega)];exact hS0'
    ·have:=sget_sset (Ent.map (eMap (fun r:Nd=>.agg (eNd r)) D.b ((ns.take k++[x]).map fun r=>(r,true)))) (sget_lt hS1')
     rw [ht]
     simpa [-sset_cons] using this
   ·have hno:c=false:=by rw [hc];exact decide_eq_false fun hs=>hx' (hok hs.1)
    simp [iaD_nds _ hx,w2,hS0,h0ne,i1,i2,i3,i4,e1,e2,hseen,hno]
    intro f1 f2 f3 f4 f5 f6
    exact absurd ⟨⟨f1,f2⟩,by rw [hl];exact ⟨⟨i1,i3⟩,⟨i2,i4⟩⟩,f3,⟨f5,f6⟩,f4⟩ hx'
  ·have hno:c=false:=by rw [hc];exact decide_eq_false fun hs=>hin (by have:=(hok hs.1).2.1;rw [hl] at this;omega)
   simp [iaD_nds _ hx,w2,hS0,h0ne,hseen,hno]
   intro i1 i2 i3 i4
   exact absurd ⟨i1,i2,i3,i4⟩ hin
 ·have:ns.take k=ns:=List.take_of_length_le (by omega)
  rw [this] at ho
  simp [e90_r0,s90_r0,ho,hS0]
  rw [wrap64 ⟨by omega,by unfold Bd at hb;omega⟩]
  simp [ho] at hc
  by_cases h1:0≤root
  ·by_cases h2:root<ns.length+2
   ·simp [h1,h2,hc]
   ·simp [h1,h2,hc]
  ·simp [h1,hc]
def Pres (S S':Store):Prop:=∀ id cs,sget S id=some (.box cs)→sget S' id=some (.box cs)
theorem Pres.refl (S:Store):Pres S S:=fun _ _ h=>h
theorem Pres.trans {S S' S'':Store} (h:Pres S S') (k:Pres S' S''):Pres S S'':=fun id cs e=>k id cs (h id cs e)
theorem Pres.push (e:Ent) (S:Store):Pres S (e::S):=fun _ _ h=>sget_push h
theorem Pres.tok {S:Store} {t:Nat} {b:Bool} (c:Bool) (h:sget S t=some (.tok b)):Pres S (sset S t (.tok c)):=by
 intro id cs e
 rw [sget_sset_ne]
 ·exact e
 ·rintro rfl;rw [h] at e;cases e
def eInts (nl:Bool) (l:List Int) (o:Own):D:=.sl 1 nl (l.map fun n=>[.i .i64 n]) o
def Liv (S:Store) (nl:Bool) (n:Nat) (o:Own):Prop:=(nl=true∧n=0∧o = .ro)∨(nl=false∧∃ t,o = .tok t∧sget S t=some (.tok true))
theorem Liv.push {S:Store} {nl:Bool} {n:Nat} {o:Own} (e:Ent) (h:Liv S nl n o):Liv (e::S) nl n o:=by
 rcases h with h | ⟨h,t,ho,ht⟩
 ·exact .inl h
 ·exact .inr ⟨h,t,ho,sget_push ht⟩
theorem app_liv {k:Nat} {nl n':Bool} {xs:List (List D)} {ys:List (List D)} {o o':Own} {S:Store} (h:Liv S nl xs.length o) (hl:xs.length+ys.length≤maxLenD) (hy:ys≠[]) :
  ∃ t S',appD k false (.sl k nl xs o) (.sl k n' ys o') S=some (.sl k false (xs++ys) (.tok t),S')∧sget S' t=some (.tok true)∧Pres S S'∧(∀ id es,sget S id=some (.map es)→sget S' id=some (.map es))∧S'.length=S.length+1∧t=S.length∧∀ id e,sget S id=some e→(∀ t,o = .tok t→id≠t)→sget S' id=some e:=by
 rcases h with ⟨h1,h2,h3⟩ | ⟨h1,t,ho,ht⟩
 ·subst h1 h3
  have:xs=[]:=List.length_eq_zero_iff.1 h2
  subst this
  refine ⟨S.length,.tok true::S,?_,by simp,Pres.push _ _,fun _ _ e=>sget_push e,by simp,rfl,fun _ _ e _=>sget_push e⟩
  rw [app_nil (o:=.ro) S (by simpa using hl) (by intro t e;cases e),if_neg hy]
  rfl
 ·subst h1 ho
  refine ⟨S.length,.tok true::sset S t (.tok false),app_tok S hl ht,?_,?_,?_,by simp [sset_len],rfl,fun id e he hne=>sget_push (by rw [sget_sset_ne _ (hne t rfl)];exact he)⟩
  ·have:=sget_top (Ent.tok true) (sset S t (.tok false))
   rwa [sset_len] at this
  ·exact (Pres.tok false ht).trans (Pres.push _ _)
  ·intro id es e
   apply sget_push
   rw [sget_sset_ne]
   ·exact e
   ·rintro rfl;rw [ht] at e;cases e
theorem Her_sub {L:List T} (h:Cl L):Her (sub L):=fun _ _ _ k=>Cl_kids h _ k
theorem Cl_nodup {L:List T}:Cl L→L.Nodup:=by
 induction L using snoc_ind with
 | h0=>intro _;simp
 | h1 L t ih=>intro h;obtain ⟨a,b,_⟩:=Cl_snoc.1 h;exact nodup_snoc.2 ⟨ih a,b⟩
theorem nodup_len {α:Type} [DecidableEq α]:∀ {M L:List α},M.Nodup→(∀ x,x∈M→x∈L)→M.length≤L.length
 | [],_,_,_=>Nat.zero_le _
 | x::M,L,hn,hs=>by
  have hx:x∈L:=hs x (by simp)
  have hn':=List.nodup_cons.1 hn
  have:=nodup_len (M:=M) (L:=L.erase x) hn'.2 (fun y hy=>(List.mem_erase_of_ne (by rintro rfl;exact hn'.1 hy)).2 (hs y (List.mem_cons_of_mem _ hy)))
  rw [List.length_erase_of_mem hx] at this
  have:=List.length_pos_of_mem hx
  simp only [List.length_cons]
  omega
theorem post_in {L M:List T} {t:T} (hL:Cl L) (hM:Cl M) (hs:∀ s,s∈M→s∈L) (ht:sub L t):Cl (post t M)∧sub (post t M) t∧(∀ s,s∈post t M→s∈L)∧(post t M).length≤L.length:=by
 obtain ⟨N,e,c,st,p,_⟩:=post_spec t M hM
 rw [e]
 have hin:∀ s,s∈M++N→s∈L:=by
  intro s h
  have hk:=Cl_kids c s h
  rcases List.mem_append.1 h with h | h
  ·exact hs s h
  ·have:=p _ (Her_sub hL) ht s h
   revert hk this
   cases s with
   | leaf _=>exact fun h=>h.elim
   | node _ _ _=>exact fun _ h=>h
 exact ⟨c,st,hin,nodup_len (Cl_nodup c) hin⟩
theorem eInts_cells (l:List Int) (k:Nat) {n:Int} (h:l[k]? = some n) (nl:Bool) (o:Own):iaD 1 (eInts nl l o) (.i .i64 k)=some (.el [.i .i64 n] 0):=by
 simp [eInts,iaD,h]
@[simp] theorem eInts_len (nl:Bool) (l:List Int) (o:Own):lenD false (eInts nl l o)=some (.i .i64 l.length):=by simp [eInts,lenD]
theorem v98 (nl nl':Bool) (ord:List Row) (root:Int) {L:List T} (hc:Cl L) (hb:L.length≤4096):∀ (t:T) (M:List T) (n:Bool) (o:Own) (S:Store),sub L t→Cl M→(∀ s,s∈M→s∈L)→Liv S n M.length o →
  ∃ n' o' S',call dp 98 [eB nl nl' ord (nds L) root,.i .i64 (code L t),eInts n (M.map (code L)) o] S=some (eInts n' ((post t M).map (code L)) o',S')∧Liv S' n' (post t M).length o'∧Pres S S':=by
 intro t
 induction t with
 | leaf b=>
  intro M n o S _ _ _ hl
  have:=f98 (eB nl nl' ord (nds L) root) (.i .i64 (code L (.leaf b))) (eInts n (M.map (code L)) o) S (fun r S'=>r=eInts n (M.map (code L)) o∧Liv S' n M.length o∧Pres S S') (by
   simp [s98,code_leaf_lt]
   exact ⟨hl.push _,Pres.push _ _⟩)
  obtain ⟨r,S',e,rfl,h1,h2⟩:=this
  exact ⟨n,o,S',e,h1,h2⟩
 | node v l h ihl ihh=>
  intro M n o S ht hM hML hl
  obtain ⟨kl,kh⟩:=Cl_kids hc _ ht
  have hge:=code_node_ge L v l h
  have hlt:=code_lt ht
  have hpos:(code L (.node v l h)-2).toNat=pos L (.node v l h):=by simp only [code];omega
  have hnd:=nds_get ht
  have hml:M.length≤L.length:=nodup_len (Cl_nodup hM) hML
  let P:D→Store→Prop:=fun r S'=>∃ n' o',r=eInts n' ((post (.node v l h) M).map (code L)) o'∧Liv S' n' (post (.node v l h) M).length o'∧Pres S S'
  have:=f98 (eB nl nl' ord (nds L) root) (.i .i64 (code L (.node v l h))) (eInts n (M.map (code L)) o) S P (by
   simp [s98,show ¬code L (.node v l h)<2 by omega]
   let J:Nat→List D→Store→Prop:=fun q fr S'=>∃ k a6 a14,k+q=M.length∧T.node v l h ∉ M.take k∧S'=Ent.box [eRows nl ord,eNds nl' (nds L),.i .i64 root]::S ∧
    fr=mkf 48 [(1,.i .i64 (code L (.node v l h))),(2,eInts n (M.map (code L)) o),(3,.bx S.length 0),(6,a6),(7,.i .i64 k),(14,a14)]
   refine W_loop J ?_ M.length _ _ ⟨0,_,_,by simp,by simp,rfl,rfl⟩
   rintro q fr S' ⟨k,a6,a14,hk,hn,rfl,rfl⟩
   rw [←wp_W,e98_0]
   simp [s98_0]
   split
   ·rename_i hkl
    obtain ⟨x,hx⟩:∃ x,M[k]? = some x:=⟨_,List.getElem?_eq_getElem (by omega)⟩
    have hxL:=hML x (List.mem_of_getElem? hx)
    have hxs:sub L x:=by
     have:=Cl_kids hM x (List.mem_of_getElem? hx)
     revert this hxL
     cases x with
     | leaf _=>exact fun _ h=>h.elim
     | node _ _ _=>exact fun h _=>h
    rw [eInts_cells _ k (n:=code L x) (by simp [hx])]
    simp
    by_cases e:x = .node v l h
    ·subst e
     have hp:post (.node v l h) M=M:=by rw [post,if_pos (List.mem_of_getElem? hx)]
     simp
     exact ⟨n,o,by rw [hp],by rw [hp];exact hl.push _,Pres.push _ _⟩
    ·have hne:code L x≠code L (.node v l h):=fun e'=>e (code_inj hxs ht e')
     simp [hne,wrapS (show Bd k by unfold Bd;omega)]
     refine ⟨q-1,by omega,k+1,_,_,by omega,?_,rfl,rfl⟩
     rw [take_snoc hx]
     simp
     exact ⟨hn,fun e'=>e e'.symm⟩
   ·have hM':T.node v l h ∉ M:=by
     have:M.take k=M:=List.take_of_length_le (by omega)
     rwa [this] at hn
    obtain ⟨c1,s1,m1,z1⟩:=post_in hc hM hML kl
    obtain ⟨c2,s2,m2,z2⟩:=post_in hc c1 m1 kh
    have hp:post (.node v l h) M=post h (post l M)++[.node v l h]:=by rw [post,if_neg hM']
    obtain ⟨n1,o1,S1,q1,l1,p1⟩:=ihl M n o (Ent.box [eRows nl ord,eNds nl' (nds L),.i .i64 root]::S) kl hM hML (hl.push _)
    obtain ⟨n2,o2,S2,q2,l2,p2⟩:=ihh (post l M) n1 o1 S1 kh c1 m1 l1
    have hbx:sget S1 S.length=some (.box [eRows nl ord,eNds nl' (nds L),.i .i64 root]):=p1 _ _ (by simp)
    simp [e98_r0,s98_r0]
    rw [wrap64 ⟨by omega,by omega⟩,iaD_nds' _ (by omega) (by rw [hpos];exact hnd)]
    simp only [OX_some,nd_1,nd_2,faD_el,ldD_el,rdK_one,Nat.zero_add,nd,eB] at q1 q2 ⊢
    rw [q1]
    have hbx2:sget S2 S.length=some (.box [eRows nl ord,eNds nl' (nds L),.i .i64 root]):=p2 _ _ hbx
    simp only [OX_some,hbx,ldE_box,rdK_lit3,rdK_one,List.getElem?_cons_succ,List.getElem?_cons_zero]
    rw [iaD_nds' _ (by omega) (by rw [hpos];exact hnd)]
    simp only [OX_some,nd_1,nd_2,faD_el,ldD_el,rdK_one,Nat.zero_add,nd,q2]
    have hz:(post h (post l M)).length+1≤L.length:=by
     have:=post_in hc hM hML ht
     rw [hp] at this
     simpa using this.2.2.2
    obtain ⟨t,S3,q3,l3,p3,_,_⟩:=app_liv (k:=1) (n':=false) (xs:=((post h (post l M)).map (code L)).map fun n=>[D.i .i64 n]) (ys:=[[.i .i64 (code L (.node v l h))]]) (o':=.ro) (by simpa using l2) (by simp [maxLenD];omega) (by simp)
    simp only [eInts] at q3 ⊢
    rw [q3]
    refine ⟨false,.tok t,?_,.inr ⟨rfl,t,rfl,l3⟩,((Pres.push _ _).trans p1).trans (p2.trans p3)⟩
    simp [eInts,hp])
  obtain ⟨r,S',e,⟨n',o',rfl,h1,h2⟩⟩:=this
  exact ⟨n',o',S',e,h1,h2⟩
end Go.Proofs.YtjniafcnjbbomaaGreatDoor.DE.V

namespace Go.Proofs.YtjniafcnjbbomaaGreatDoor.DE.V
open Go BT
def VB (ord:List Row) (ns:List Nd) (root:Int):Prop:=
 (OrdOk ord∧ord.length≤4096)∧ns.length≤4096∧(Sh ord.length ns∧0≤root∧root<ns.length+2)∧∃ t,Cano ns root t
theorem okNd_of {n:Nat} {ns:List Nd} {k:Nat} {x:Nd} (hx:ns[k]? = some x) (h:Sh n ns):okNd n (ns.take k) x:=
 (Sh_snoc.1 (take_snoc hx ▸ Sh_take (k+1) h)).2
open Classical in
theorem v44 (nl nl':Bool) (ord:List Row) (ns:List Nd) (root:Int) (hb:Bd (ns.length+2)) (hb':Bd ord.length) :
  isoCall (call dp) 44 [eB nl nl' ord ns root]=some (.b (decide (VB ord ns root))):=by
 obtain ⟨c,hc⟩:∃ c,c=decide (VB ord ns root):=⟨_,rfl⟩
 rw [←hc]
 apply i44 _ _ (by simp [noRefL]) rfl
 simp [s44,v96 _ _ hb']
 have hbn:(ns.length:Int)+2≤4611686018427387904:=by unfold Bd at hb;omega
 rw [wrap64 ⟨by omega,by omega⟩]
 have hf:∀ P:Prop,(VB ord ns root→P)→¬P→c=false:=fun P h1 h2=>by rw [hc];exact decide_eq_false fun h=>h2 (h1 h)
 by_cases h1:OrdOk ord∧ord.length≤4096
 case neg=>
  have:=hf _ (fun h=>h.1) h1
  have h1':OrdOk ord→4096<ord.length:=fun h=>Nat.lt_of_not_le fun k=>h1 ⟨h,k⟩
  simp [this]
  intro q1 q2
  exact absurd ⟨q1,q2⟩ h1
 by_cases h2:ns.length≤4096
 case neg=>
  have:=hf _ (fun h=>h.2.1) h2
  simp [h1,this]
  intro q1;exact absurd (show ns.length≤4096 by omega) h2
 by_cases h3:0≤root
 case neg=>
  have:=hf _ (fun h=>h.2.2.1.2.1) h3
  simp [h1,this]
  intro q1 q2;exact absurd q2 h3
 by_cases h4:root<ns.length+2
 case neg=>
  have:=hf _ (fun h=>h.2.2.1.2.2) h4
  simp [h1,this]
  intro q1 q2 q3;exact absurd q3 h4
 have f2:¬(4096:Int)<ns.length:=by omega
 have f3:¬root<0:=by omega
 have f4:¬(ns.length:Int)+2≤root:=by omega
 simp [h1,f2,f3,f4]
 let J:Nat→List D→Store→Prop:=fun q fr S=>∃ k a2 a4 a5 a6 a7 a36 a104 a121,k+q=ns.length∧Sh ord.length (ns.take k)∧sget S 0=some (.box [eRows nl ord,eNds nl' ns,.i .i64 root]) ∧
  fr=mkf 137 [(1,.bx 0 0),(2,a2),(3,.i .i64 k),(4,a4),(5,a5),(6,a6),(7,a7),(36,a36),(104,a104),(121,a121)]
 refine W_loop J ?_ ns.length _ _ ⟨0,_,_,_,_,_,_,_,_,by simp,by simp [Sh_nil],by simp,rfl⟩
 rintro q fr S ⟨k,a2,a4,a5,a6,a7,a36,a104,a121,hk,ho,hS0,rfl⟩
 rw [←wp_W,e44_2]
 simp [s44_2,hS0]
 by_cases hkl:k<ns.length
 case pos=>
  obtain ⟨x,hx⟩:∃ x,ns[k]? = some x:=⟨_,List.getElem?_eq_getElem (by omega)⟩
  have ht:=take_snoc hx
  have hlt:=sget_lt hS0
  have h0ne:¬0=S.length:=by omega
  have w2:IntKind.i64.wrap ((k:Int)+2)=k+2:=wrap64 ⟨by omega,by omega⟩
  have hl:(ns.take k).length=k:=by rw [List.length_take];omega
  have hok:VB ord ns root→okNd ord.length (ns.take k) x:=fun hs=>okNd_of hx hs.2.2.1.1
  simp [hkl,iaD_nds _ hx,w2,hS0,h0ne]
  by_cases hin:(0≤x.1∧x.1<ord.length)∧(0≤x.2.1∧0≤x.2.2∧x.2.1<k+2∧x.2.2<k+2)∧x.2.1≠x.2.2
  case neg=>
   have:=hf _ hok (fun h=>hin ⟨h.1,by have:=h.2.1;rw [hl] at this;omega,h.2.2.1⟩)
   simp [this]
   intro g1 g2 g3 g4 g5 g6 g7
   exact absurd ⟨⟨g1,g2⟩,⟨g3,g4,g5,g6⟩,g7⟩ hin
  obtain ⟨⟨c1,c2⟩,⟨i1,i2,i3,i4⟩,c3⟩:=hin
  have f1:¬x.1<0:=by omega
  have f2:¬(ord.length:Int)≤x.1:=by omega
  have f3:¬x.2.1<0:=by omega
  have f4:¬x.2.2<0:=by omega
  have f5:¬(k:Int)+2≤x.2.1:=by omega
  have f6:¬(k:Int)+2≤x.2.2:=by omega
  have e1:=v97 nl nl' ord ns root x.2.1 ⟨by omega,by omega⟩ (by omega)
  have e2:=v97 nl nl' ord ns root x.2.2 ⟨by omega,by omega⟩ (by omega)
  rw [←lev_take i3 (by omega)] at e1
  rw [←lev_take i4 (by omega)] at e2
  simp only [eB] at e1 e2
  simp [f1,f2,f3,f4,f5,f6,c3,e1,e2]
  by_cases hlv:x.1<lev ord.length (ns.take k) x.2.1∧x.1<lev ord.length (ns.take k) x.2.2
  case neg=>
   have:=hf _ hok (fun h=>hlv h.2.2.2.1)
   simp [this]
   intro g1 g2
   exact absurd ⟨g1,g2⟩ hlv
  have f7:¬lev ord.length (ns.take k) x.2.1≤x.1:=by omega
  have f8:¬lev ord.length (ns.take k) x.2.2≤x.1:=by omega
  simp [f7,f8]
  let J2:Nat→List D→Store→Prop:=fun q fr S'=>∃ j a104,j+q=k∧x ∉ ns.take j∧S'=Ent.box (eNd x)::S ∧
   fr=mkf 137 [(1,.bx 0 0),(2,a2),(3,.i .i64 k),(4,.bx S.length 0),(5,.i .i64 j),(6,a6),(7,a7),(36,.top),(104,a104),(121,a121)]
  refine W_loop J2 ?_ k _ _ ⟨0,_,by simp,by simp,rfl,rfl⟩
  rintro q' fr S' ⟨j,a104,hj,hn,rfl,rfl⟩
  rw [←wp_W,e44_1]
  simp [s44_1,hS0,h0ne]
  by_cases hjk:j<k
  case pos=>
   obtain ⟨y,hy⟩:∃ x,ns[j]? = some x:=⟨_,List.getElem?_eq_getElem (by omega)⟩
   simp [hjk,iaD_nds _ hy]
   by_cases e:y=x
   ·have hy':(ns.take k)[j]? = some y:=by rw [List.getElem?_take,if_pos hjk];exact hy
    have:=hf _ hok (fun h=>h.2.2.2.2 (e ▸ List.mem_of_getElem? hy'))
    simp [e,this]
   ·simp [e,wrapS (show Bd j by unfold Bd;omega)]
    refine ⟨q'-1,by omega,j+1,_,by omega,?_,rfl,rfl⟩
    rw [take_snoc hy]
    simp [hn]
    exact fun h=>e h.symm
  case neg=>
   have:j=k:=by omega
   subst this
   simp [e44_r0,s44_r0,wrapS (show Bd j by unfold Bd;omega)]
   refine ⟨q-1,by omega,j+1,_,_,_,_,_,_,_,_,by omega,?_,sget_push hS0,rfl⟩
   rw [ht,Sh_snoc]
   exact ⟨ho,⟨c1,c2⟩,by rw [hl];exact ⟨⟨i1,i3⟩,⟨i2,i4⟩⟩,c3,hlv,hn⟩
 case neg=>
  have:ns.take k=ns:=List.take_of_length_le (by omega)
  rw [this] at ho
  obtain ⟨L,hL,e,hw⟩:=Sh_trees ho
  subst e
  rw [nds_len] at *
  obtain ⟨t,ht,rfl,_⟩:=code_all hL h3 h4
  have hcan:VB ord (nds L) (code L t)↔post t []=L:=by
   rw [←Cano_iff hL ht]
   exact ⟨fun h=>h.2.2.2,fun h=>⟨h1,by rw [nds_len];exact h2,⟨ho,h3,by rw [nds_len];exact h4⟩,h⟩⟩
  have hc':c=true↔post t []=L:=by rw [hc,decide_eq_true_iff];exact hcan
  obtain ⟨n1,o1,S1,q1,l1,p1⟩:=v98 nl nl' ord (code L t) hL h2 t [] true .ro S ht Cl_nil (by simp) (.inl ⟨rfl,rfl,rfl⟩)
  obtain ⟨pc,ps,pm,pl⟩:=post_in hL Cl_nil (by simp) ht
  have hS1:=p1 _ _ hS0
  rw [show eInts true ([].map (code L)) .ro=D.sl 1 true [] .ro from rfl] at q1
  simp only [eB] at q1
  simp [hkl,e44_r2,s44_r2,hS0,q1]
  let J3:Nat→List D→Store→Prop:=fun q fr S'=>∃ k a121,k+q=(post t []).length∧(post t []).take k=L.take k∧S'=S1 ∧
   fr=mkf 137 [(1,.bx 0 0),(2,a2),(3,.top),(4,a4),(5,a5),(6,eInts n1 ((post t []).map (code L)) o1),(7,.i .i64 k),(36,.top),(104,a104),(121,a121)]
  refine W_loop J3 ?_ (post t []).length _ _ ⟨0,_,by simp,by simp,rfl,rfl⟩
  rintro q' fr S' ⟨j,a121,hj,hn,rfl,rfl⟩
  rw [←wp_W,e44_0]
  simp [s44_0]
  by_cases hjl:j<(post t []).length
  case pos=>
   obtain ⟨x,hx⟩:∃ x,(post t [])[j]? = some x:=⟨_,List.getElem?_eq_getElem (by omega)⟩
   obtain ⟨y,hy⟩:∃ x,L[j]? = some x:=⟨_,List.getElem?_eq_getElem (by omega)⟩
   have hcy:=code_get hL hy
   have hxm:=pm x (List.mem_of_getElem? hx)
   have sub_of:∀ x,x∈L→sub L x:=by
    intro x hx
    have:=Cl_kids hL x hx
    revert this hx
    cases x with
    | leaf _=>exact fun _ h=>h.elim
    | node _ _ _=>exact fun h _=>h
   have hia:=eInts_cells ((post t []).map (code L)) j (n:=code L x) (by simp [hx]) n1 o1
   simp [hjl,hia,wrap64 (n:=(j:Int)+2) ⟨by omega,by omega⟩]
   by_cases e:x=y
   ·subst e
    simp [hcy,wrapS (show Bd j by unfold Bd;omega)]
    exact ⟨q'-1,by omega,j+1,_,by omega,take_next hn hx hy,rfl,rfl⟩
   ·have hne:¬code L x=(j:Int)+2:=by
     rw [←hcy]
     exact fun h=>e (code_inj (sub_of x hxm) (sub_of y (List.mem_of_getElem? hy)) h)
    have:c=false:=by
     rw [←Bool.not_eq_true,hc']
     intro h
     rw [h,hy] at hx
     injection hx with hx
     exact e hx.symm
    simp [hne,this]
  case neg=>
   simp [hjl,e44_r1,s44_r1,hS1]
   have hj':(post t []).take j=post t []:=List.take_of_length_le (by omega)
   rw [hj'] at hn
   by_cases e:(post t []).length=L.length
   ·have:c=true:=by rw [hc',hn,List.take_of_length_le (by omega)]
    simp [e,this,nds_len]
   ·have:c=false:=by
     rw [←Bool.not_eq_true,hc']
     exact fun h=>e (by rw [h])
    simp [e,this,nds_len]
    omega
end Go.Proofs.YtjniafcnjbbomaaGreatDoor.DE.V

namespace Go.Proofs.YtjniafcnjbbomaaGreatDoor.DE.V
open Go BT
theorem sub_of {L:List T} (hL:Cl L):∀ x,x∈L→sub L x:=by
 intro x hx
 have:=Cl_kids hL x hx
 revert this hx
 cases x with
 | leaf _=>exact fun _ h=>h.elim
 | node _ _ _=>exact fun h _=>h
def Keep (p:Nat→Prop) (S S':Store):Prop:=∀ id e,¬p id→sget S id=some e→sget S' id=some e
theorem Keep.push (p:Nat→Prop) (e:Ent) (S:Store):Keep p S (e::S):=fun _ _ _ h=>sget_push h
theorem Keep.sset {p:Nat→Prop} {S:Store} (id:Nat) (x:Ent) (h:p id):Keep p S (sset S id x):=fun j e hj k=>by
 rw [sget_sset_ne]
 ·exact k
 ·rintro rfl;exact hj h
theorem Keep.trans {p:Nat→Prop} {S S' S'':Store} (h:Keep p S S') (k:Keep p S' S''):Keep p S S'':=fun id e hp he=>k id e hp (h id e hp he)
noncomputable def numM (L M:List T):List (Int × Int):=(0,0)::(1,1)::M.map fun s=>(code L s,code M s)
def eI (n:Int):D:=.i .i64 n
def NumI (nl':Bool) (q r:D) (L:List T) (i1 i2 i3 i4 im:Nat) (M:List T) (S:Store):Prop:=
 sget S i1=some (.box [.mp im])∧sget S im=some (.map (eMap eI eI (numM L M)))∧sget S i2=some (.box [eNds nl' (nds L)]) ∧
 sget S i3=some (.box [.fn 160 [.bx i1 0,.bx i2 0,.bx i3 0,.bx i4 0]])∧∃ n o,sget S i4=some (.box [q,.sl 3 n ((nds M).map eNd) o,r])∧Liv S n M.length o
def PresB (p:Nat) (S S':Store):Prop:=∀ id cs,id≠p→sget S id=some (.box cs)→sget S' id=some (.box cs)
theorem PresB.trans {p:Nat} {S S' S'':Store} (h:PresB p S S') (k:PresB p S' S''):PresB p S S'':=fun id cs hp e=>k id cs hp (h id cs hp e)
theorem PresB.push (p:Nat) (e:Ent) (S:Store):PresB p S (e::S):=fun _ _ _ h=>sget_push h
theorem PresB.refl (p:Nat) (S:Store):PresB p S S:=fun _ _ _ h=>h
theorem Pres.B {S S':Store} (p:Nat) (h:Pres S S'):PresB p S S':=fun id cs _ e=>h id cs e
theorem assoc_code {L:List T} {M:List T} (hM:∀ s,s∈M→sub L s) {t:T} (ht:sub L t) (f:T→Int):∀ (h:∀ v l h,t = .node v l h→True),assoc (code L t) (M.map fun s=>(code L s,f s))=if t∈M then some (f t) else none:=by
 intro _
 induction M with
 | nil=>simp [assoc]
 | cons s M ih=>
  simp only [List.map_cons,assoc]
  have ih:=ih (fun s hs=>hM s (List.mem_cons_of_mem _ hs))
  by_cases e:t=s
  ·subst e;simp
  ·have:code L t≠code L s:=fun h=>e (code_inj ht (hM s (by simp)) h)
   simp [this,ih,e]
theorem keyE_eI:KeyE (.one .i) eI:=keyE_i
theorem deq_i (n:Int):deq (.i .i64 n) (.i .i64 n)=true:=by simp [deq]
theorem deq_fn4 (a b c d:Nat):deq (.fn 160 [.bx a 0,.bx b 0,.bx c 0,.bx d 0]) (.fn 160 [.bx a 0,.bx b 0,.bx c 0,.bx d 0])=true:=by simp [deq,deqL]
theorem NumI_keep {nl':Bool} {q r:D} {L:List T} {i1 i2 i3 i4 im:Nat} {M:List T} {S S':Store} {p:Nat→Prop} (h:NumI nl' q r L i1 i2 i3 i4 im M S) (hk:Keep p S S')
  (p1:¬p i1) (p2:¬p i2) (p3:¬p i3) (p4:¬p i4) (pm:¬p im) (pt:∀ t,p t→sget S t≠some (.tok true)):NumI nl' q r L i1 i2 i3 i4 im M S':=by
 obtain ⟨a,b,c,d,n,o,e,l⟩:=h
 refine ⟨hk _ _ p1 a,hk _ _ pm b,hk _ _ p2 c,hk _ _ p3 d,n,o,hk _ _ p4 e,?_⟩
 rcases l with l | ⟨l1,t,l2,l3⟩
 ·exact .inl l
 ·exact .inr ⟨l1,t,l2,hk _ _ (fun k=>pt t k l3) l3⟩
theorem numM_snoc {L M:List T} {t:T} {v:Nat} {l h:T} (hM:∀ s,s∈M→sub M s) (ht:T.node v l h=t) (hn:t ∉ M):numM L (M++[t])=numM L M++[(code L t,(M.length:Int)+2)]:=by
 subst ht
 simp only [numM,List.map_append,List.cons_append,List.map_cons,List.map_nil]
 congr 3
 ·apply List.map_congr_left
  intro s hs
  rw [code_app _ (hM s hs)]
 ·simp only [code]
  rw [pos_new [] hn]
theorem v160 (nl':Bool) (q r:D) {L:List T} (hc:Cl L) (hb:L.length≤1000000) (i1 i2 i3 i4 im:Nat) (h41:i4≠i1) (h42:i4≠i2) (h43:i4≠i3):∀ (t:T) (M:List T) (S:Store),sub L t→Cl M→(∀ s,s∈M→s∈L)→NumI nl' q r L i1 i2 i3 i4 im M S →
  ∃ S',call dp 160 [.i .i64 (code L t),.bx i1 0,.bx i2 0,.bx i3 0,.bx i4 0] S=some (.i .i64 (code (post t M) t),S')∧NumI nl' q r L i1 i2 i3 i4 im (post t M) S'∧PresB i4 S S':=by
 intro t
 induction t with
 | leaf b=>
  intro M S ht hM hML hI
  let P:D→Store→Prop:=fun r' S'=>r' = .i .i64 (code M (.leaf b))∧S'=S
  obtain ⟨r',S',e,rfl,rfl⟩:=f160 (.i .i64 (code L (.leaf b))) (.bx i1 0) (.bx i2 0) (.bx i3 0) (.bx i4 0) S P (by
   simp [s160,hI.1]
   have:=lkD'_mp keyE_eI (a:=code L (.leaf b)) rfl hI.2.1 true (.i .i64 0)
   rw [show D.i .i64 (code L (.leaf b))=eI (code L (.leaf b)) from rfl,this]
   cases b <;> simp [numM,assoc,code,eI] <;> exact ⟨rfl,rfl⟩)
  exact ⟨S',e,hI,PresB.refl _ _⟩
 | node v l h ihl ihh=>
  intro M S ht hM hML hI
  obtain ⟨kl,kh⟩:=Cl_kids hc _ ht
  have hge:=code_node_ge L v l h
  have hlt:=code_lt ht
  have hpos:(code L (.node v l h)-2).toNat=pos L (.node v l h):=by simp only [code];omega
  have hnd:=nds_get ht
  have hMs:∀ s,s∈M→sub L s:=fun s hs=>sub_of hc s (hML s hs)
  let P:D→Store→Prop:=fun r' S'=>r' = .i .i64 (code (post (.node v l h) M) (.node v l h))∧NumI nl' q r L i1 i2 i3 i4 im (post (.node v l h) M) S'∧PresB i4 S S'
  have hlook:assoc (code L (.node v l h)) (numM L M)=if T.node v l h∈M then some (code M (.node v l h)) else none:=by
   have h0:¬code L (.node v l h)=0:=by omega
   have h1:¬code L (.node v l h)=1:=by omega
   simp only [numM,assoc,h0,h1,if_false]
   exact assoc_code hMs ht _ (fun _ _ _ _=>trivial)
  obtain ⟨r',S',e,rfl,h1,h2⟩:=f160 (.i .i64 (code L (.node v l h))) (.bx i1 0) (.bx i2 0) (.bx i3 0) (.bx i4 0) S P (by
   have hlk:=lkD'_mp keyE_eI (a:=code L (.node v l h)) rfl hI.2.1 true (.i .i64 0)
   rw [hlook] at hlk
   simp only [eI] at hlk
   simp [s160,hI.1,hlk]
   by_cases hm:T.node v l h∈M
   ·have hp:post (.node v l h) M=M:=by rw [post,if_pos hm]
    simp [hm]
    exact ⟨by rw [hp];rfl,by rw [hp];exact hI,PresB.refl _ _⟩
   ·simp [hm,hI.2.2.1,hI.2.2.2.1]
    rw [wrap64 ⟨by omega,by omega⟩,iaD_nds' _ (by omega) (by rw [hpos];exact hnd)]
    obtain ⟨c1,s1,m1,z1⟩:=post_in hc hM hML kl
    obtain ⟨c2,s2,m2,z2⟩:=post_in hc c1 m1 kh
    have hp:post (.node v l h) M=post h (post l M)++[.node v l h]:=by rw [post,if_neg hm]
    have hpi:=post_in hc hM hML ht
    rw [hp] at hpi
    obtain ⟨N2,e2,_⟩:=post_spec h (post l M) c1
    have hcode:code (post h (post l M)) l=code (post l M) l:=by rw [e2,code_app _ s1]
    have hz:(post h (post l M)).length+1≤L.length:=by simpa using hpi.2.2.2
    have hnm:T.node v l h ∉ post h (post l M):=(Cl_snoc.1 hpi.1).2.1
    have g1:=sget_lt hI.1
    have g2:=sget_lt hI.2.2.1
    have g3:=sget_lt hI.2.2.2.1
    have gm:=sget_lt hI.2.1
    have g4:i4<S.length:=by obtain ⟨_,_,_,_,_,_,e,_⟩:=hI;exact sget_lt e
    have hm1:im≠i4:=by rintro rfl;obtain ⟨_,b,_,_,_,_,e,_⟩:=hI;rw [b] at e;cases e
    have hI1:=NumI_keep hI (Keep.push (fun _=>False) (.box (eNd (nd L (.node v l h)))) S) id id id id id (fun _ k=>k.elim)
    obtain ⟨S1,q1,I1,P1⟩:=ihl M _ kl hM hML hI1
    obtain ⟨S2,q2,I2,P2⟩:=ihh (post l M) S1 kh c1 m1 I1
    have b0:sget (Ent.box (eNd (nd L (.node v l h)))::S) S.length=some (.box (eNd (nd L (.node v l h)))):=by simp
    have b1:=P1 _ _ (by omega) b0
    have b2:=P2 _ _ (by omega) b1
    have hS:PresB i4 S (Ent.box (eNd (nd L (.node v l h)))::S):=PresB.push _ _ _
    simp only [OX_some,ldD_el_nd,cellsK_nd,Option.bind_some,splice_nd]
    simp only [nd] at b0 b1 b2 hI1 q1 P1 hS ⊢
    generalize Ent.box (eNd ((v:Int),code L l,code L h))::S=Sa at *
    simp only [b0,hI1.2.2.2.1,ldE_box,rdK_one,nd_1,nd_2,List.getElem?_cons_zero,OX_some,fnD_fn,q1,I1.2.2.2.1,deq_fn4,true_and,b1,deq_i,q2,b2]
    simp only [eNd,stE3_1,isCell_i,OX_some]
    have hlt2:=sget_lt b2
    have b3:sget (sset S2 S.length (.box [.i .i64 v,.i .i64 (code (post l M) l),.i .i64 (code L h)])) S.length=_:=sget_sset _ hlt2
    simp only [b3,stE3_2,isCell_i,OX_some]
    have k3:Keep (fun j=>j=S.length) S2 (sset (sset S2 S.length (.box [.i .i64 v,.i .i64 (code (post l M) l),.i .i64 (code L h)])) S.length (.box [.i .i64 v,.i .i64 (code (post l M) l),.i .i64 (code (post h (post l M)) h)])):=
     (Keep.sset (p:=fun j=>j=S.length) _ _ rfl).trans (Keep.sset (p:=fun j=>j=S.length) _ _ rfl)
    have I3:=NumI_keep I2 k3 (by omega) (by omega) (by omega) (by omega) (by omega) (by rintro _ rfl h;rw [b2] at h;cases h)
    have b4:sget (sset (sset S2 S.length (.box [.i .i64 v,.i .i64 (code (post l M) l),.i .i64 (code L h)])) S.length (.box [.i .i64 v,.i .i64 (code (post l M) l),.i .i64 (code (post h (post l M)) h)])) S.length=_:=sget_sset _ (by rw [sset_len];exact hlt2)
    generalize sset (sset S2 S.length (.box [.i .i64 v,.i .i64 (code (post l M) l),.i .i64 (code L h)])) S.length (.box [.i .i64 v,.i .i64 (code (post l M) l),.i .i64 (code (post h (post l M)) h)])=S3 at *
    have P3:PresB i4 S S3:=by
     intro id cs hid e
     exact k3 _ _ (by have:=sget_lt e;simp only;omega) (P2 _ _ hid (P1 _ _ hid (hS _ _ hid e)))
    obtain ⟨j1,jm,j2,j3,n,o,j4,jl⟩:=I3
    have hlk:((nds (post h (post l M))).map eNd).length=(post h (post l M)).length:=by rw [List.length_map,nds_len]
    obtain ⟨t',S4,q4,l4,p4,m4,z4⟩:=app_liv (k:=3) (n':=false) (xs:=(nds (post h (post l M))).map eNd) (ys:=[[.i .i64 v,.i .i64 (code (post l M) l),.i .i64 (code (post h (post l M)) h)]]) (o':=.ro) (by rw [hlk];exact jl) (by rw [hlk];simp [maxLenD];omega) (by simp)
    have j4':=p4 _ _ j4
    simp only [j4,ldE_box,rdK_one,List.getElem?_cons_succ,List.getElem?_cons_zero,OX_some,b4,rdK_lit3]
    rw [show cellsV 3 true [D.agg [.i .i64 v,.i .i64 (code (post l M) l),.i .i64 (code (post h (post l M)) h)]]=some [[.i .i64 v,.i .i64 (code (post l M) l),.i .i64 (code (post h (post l M)) h)]] from rfl]
    simp only [OX_some,q4,j4',stE3_1,isCell_sl]
    have hX:(nds (post h (post l M))).map eNd++[[D.i .i64 v,.i .i64 (code (post l M) l),.i .i64 (code (post h (post l M)) h)]]=(nds (post h (post l M)++[.node v l h])).map eNd:=by
     rw [nds_snoc hpi.1,List.map_append,←hcode];rfl
    rw [hX]
    have hlX:((nds (post h (post l M)++[.node v l h])).map eNd).length=(post h (post l M)).length+1:=by rw [List.length_map,nds_len];simp
    have a1:=j1
    have s1:sget (sset S4 i4 (.box [q,.sl 3 false ((nds (post h (post l M)++[.node v l h])).map eNd) (.tok t'),r])) i1=_:=(sget_sset_ne _ (Ne.symm h41)).trans (p4 _ _ j1)
    have s2:sget (sset S4 i4 (.box [q,.sl 3 false ((nds (post h (post l M)++[.node v l h])).map eNd) (.tok t'),r])) i2=_:=(sget_sset_ne _ (Ne.symm h42)).trans (p4 _ _ j2)
    have s3:sget (sset S4 i4 (.box [q,.sl 3 false ((nds (post h (post l M)++[.node v l h])).map eNd) (.tok t'),r])) i3=_:=(sget_sset_ne _ (Ne.symm h43)).trans (p4 _ _ j3)
    have s4:sget (sset S4 i4 (.box [q,.sl 3 false ((nds (post h (post l M)++[.node v l h])).map eNd) (.tok t'),r])) i4=_:=sget_sset _ (sget_lt j4')
    have sm:sget (sset S4 i4 (.box [q,.sl 3 false ((nds (post h (post l M)++[.node v l h])).map eNd) (.tok t'),r])) im=_:=(sget_sset_ne _ hm1).trans (m4 _ _ jm)
    have st:sget (sset S4 i4 (.box [q,.sl 3 false ((nds (post h (post l M)++[.node v l h])).map eNd) (.tok t'),r])) t'=_:=(sget_sset_ne _ (by rintro rfl;rw [j4'] at l4;cases l4)).trans l4
    have P5:PresB i4 S (sset S4 i4 (.box [q,.sl 3 false ((nds (post h (post l M)++[.node v l h])).map eNd) (.tok t'),r])):=fun id cs hid e=>(sget_sset_ne _ hid).trans (p4 _ _ (P3 _ _ hid e))
    generalize sset S4 i4 (.box [q,.sl 3 false ((nds (post h (post l M)++[.node v l h])).map eNd) (.tok t'),r])=S5 at *
    have hm2s:∀ s,s∈post h (post l M)→sub (post h (post l M)) s:=sub_of c2
    have hm2L:∀ s,s∈post h (post l M)→sub L s:=fun s hs=>sub_of hc s (m2 s hs)
    have ha:assoc (code L (.node v l h)) (numM L (post h (post l M)))=none:=by
     have h0:¬code L (.node v l h)=0:=by omega
     have h1:¬code L (.node v l h)=1:=by omega
     simp only [numM,assoc,h0,h1,if_false]
     rw [assoc_code hm2L ht _ (fun _ _ _ _=>trivial),if_neg hnm]
    have hmu:=muD'_new keyE_eI (ev:=eI) (a:=code L (.node v l h)) (b:=((post h (post l M)).length:Int)+2) rfl sm ha
    rw [←numM_snoc (v:=v) (l:=l) (h:=h) hm2s rfl hnm] at hmu
    have hs6:=sget_sset (Ent.map (eMap eI eI (numM L (post h (post l M)++[.node v l h])))) (sget_lt sm)
    have hlk6:=lkD'_mp keyE_eI (a:=code L (.node v l h)) rfl hs6 false (.i .i64 0)
    have has:assoc (code L (.node v l h)) (numM L (post h (post l M)++[.node v l h]))=some (((post h (post l M)).length:Int)+2):=by
     rw [numM_snoc (v:=v) (l:=l) (h:=h) hm2s rfl hnm,assoc_app,ha]
     simp [assoc]
    rw [has] at hlk6
    simp only [eI] at hmu hlk6
    have hi1:im≠i1:=by rintro rfl;rw [sm] at s1;cases s1
    have hi2:im≠i2:=by rintro rfl;rw [sm] at s2;cases s2
    have hi3:im≠i3:=by rintro rfl;rw [sm] at s3;cases s3
    have hit:t'≠im:=by rintro rfl;rw [sm] at st;cases st
    simp only [s1,s4,ldE_box,rdK_one,List.getElem?_cons_succ,List.getElem?_cons_zero,OX_some,lenD_sl,bin_sub,bin_add,hlX]
    rw [wrap64 (n:=((((post h (post l M)).length+1:Nat):Int)-1)) ⟨by omega,by omega⟩,wrap64 ⟨by omega,by omega⟩]
    have e9:((((post h (post l M)).length+1:Nat):Int)-1+2)=((post h (post l M)).length:Int)+2:=by omega
    rw [e9,hmu]
    simp only [OX_some,sget_sset_ne _ (Ne.symm hi1),s1,ldE_box,rdK_one,List.getElem?_cons_zero,hlk6,Option.map_some,okD_fs]
    refine ⟨?_,?_,?_⟩
    ·rw [hp]
     simp only [code]
     rw [pos_new [] hnm]
     rfl
    ·rw [hp]
     refine ⟨(sget_sset_ne _ (Ne.symm hi1)).trans s1,hs6,(sget_sset_ne _ (Ne.symm hi2)).trans s2,(sget_sset_ne _ (Ne.symm hi3)).trans s3,false,.tok t',(sget_sset_ne _ (Ne.symm hm1)).trans s4,.inr ⟨rfl,t',rfl,(sget_sset_ne _ hit).trans st⟩⟩
    ·exact fun id cs hid e=>(sget_sset_ne _ (by rintro rfl;rw [hI.2.1] at e;cases e)).trans (P5 _ _ hid e))
  exact ⟨S',e,h1,h2⟩
@[simp] theorem ldc_bx (S:Store) (k:Nat) (g:Bool) (id o:Nat):ldc S k g (.bx id o)=ldE (sget S id) k g o:=by simp only [ldc,ldD_bx]
theorem v91 (nl nl':Bool) (ord:List Row) {L:List T} (hc:Cl L) (hb:L.length≤1000000) (t:T) (ht:sub L t) (hn:nl=true→ord=[]) (ho:ord.length≤maxLenD) :
  ∃ n:Bool,(n=true→post t []=[])∧isoCall (call dp) 91 [eRows nl ord,eNds nl' (nds L),.i .i64 (code L t)]=some (eB nl n ord (nds (post t [])) (code (post t []) t)):=by
 let S0:Store:=[Ent.box [.fn 160 [.bx 4 0,.bx 0 0,.bx 5 0,.bx 2 0]],.box [.mp 3],.map [(.i .i64 0,.i .i64 0),(.i .i64 1,.i .i64 1)],.box [eRows nl ord,.sl 3 true [] .ro,.i .i64 0],.box [.sl 2 true [] .ro,.sl 3 true [] .ro,.i .i64 0],.box [eNds nl' (nds L)]]
 have hI:NumI nl' (eRows nl ord) (.i .i64 0) L 4 0 5 2 3 [] S0:=⟨rfl,rfl,rfl,rfl,true,.ro,rfl,.inl ⟨rfl,rfl,rfl⟩⟩
 obtain ⟨S1,q1,⟨I1,I2,I3,I4,n,o,I5,I6⟩,P1⟩:=v160 nl' (eRows nl ord) (.i .i64 0) hc hb 4 0 5 2 3 (by omega) (by omega) (by omega) t [] S0 ht Cl_nil (by simp) hI
 have hx3:sget S1 1=some (.box [.sl 2 true [] .ro,.sl 3 true [] .ro,.i .i64 0]):=P1 1 _ (by omega) rfl
 refine ⟨n,?_,?_⟩
 ·rcases I6 with ⟨_,h,_⟩ | ⟨h,_⟩
  ·exact fun _=>List.length_eq_zero_iff.1 h
  ·intro k;rw [k] at h;cases h
 ·apply i91 _ _ _ _ (by simp [noRefL]) (by simp)
  simp [s91,v159 nl ord hn ho,bldV,muD',isKey,isSK,muD,keq,seq1]
  change (call dp) 160 [.i .i64 (code L t),.bx 4 0,.bx 0 0,.bx 5 0,.bx 2 0] S0=_ at q1
  have q1':=q1
  simp only [S0] at q1'
  rw [q1']
  have l2:=sget_lt I5
  have l1:=sget_lt hx3
  have e1:sget (sset S1 2 (.box [eRows nl ord,.sl 3 n ((nds (post t [])).map eNd) o,.i .i64 (code (post t []) t)])) 2=_:=sget_sset _ l2
  have e2:sget (sset S1 2 (.box [eRows nl ord,.sl 3 n ((nds (post t [])).map eNd) o,.i .i64 (code (post t []) t)])) 1=_:=(sget_sset_ne _ (by omega)).trans hx3
  have e3:sget (sset (sset S1 2 (.box [eRows nl ord,.sl 3 n ((nds (post t [])).map eNd) o,.i .i64 (code (post t []) t)])) 1 (.box [eRows nl ord,.sl 3 n ((nds (post t [])).map eNd) o,.i .i64 (code (post t []) t)])) 1=_:=sget_sset _ (by rw [sset_len];exact l1)
  simp [I5,e1,e2,e3]
  rfl
end Go.Proofs.YtjniafcnjbbomaaGreatDoor.DE.V

namespace Go.Proofs.YtjniafcnjbbomaaGreatDoor.DE.V
open Go BT
open Classical in
theorem v38 (nl nl':Bool) (ord:List Row) (ns:List Nd) (root:Int) (hn:nl=true→ord=[]) (hb:Bd (ns.length+2)) (hb':Bd ord.length) :
  isoCall (call dp) 38 [eB nl nl' ord ns root]=some (.b (decide (VB ord ns root))):=by
 obtain ⟨c,hc⟩:∃ c,c=decide (VB ord ns root):=⟨_,rfl⟩
 rw [←hc]
 have hf:∀ P:Prop,(VB ord ns root→P)→¬P→c=false:=fun P h1 h2=>by rw [hc];exact decide_eq_false fun h=>h2 (h1 h)
 have e90:=v90 nl nl' ord ns root hb
 simp only [eB] at e90
 apply i38 _ _ (by simp [noRefL]) rfl
 simp [s38,v89 _ _ hb',e90]
 by_cases h1:OrdOk ord∧ord.length≤4096
 case neg=>
  have:=hf _ (fun h=>h.1) h1
  simp [this]
  intro q1 q2
  exact absurd ⟨q1,q2⟩ h1
 by_cases h2:ns.length≤4096
 case neg=>
  have:=hf _ (fun h=>h.2.1) h2
  simp [h1,this]
  intro q1;exact absurd (show ns.length≤4096 by omega) h2
 have f2:¬(4096:Int)<ns.length:=by omega
 by_cases h3:Sh ord.length ns∧0≤root∧root<ns.length+2
 case neg=>
  have:=hf _ (fun h=>h.2.2.1) h3
  simp [h1,f2,this]
  intro q1 q2 q3;exact absurd ⟨q1,q2,q3⟩ h3
 obtain ⟨ho,h4,h5⟩:=h3
 obtain ⟨L,hL,e,hw⟩:=Sh_trees ho
 subst e
 rw [nds_len] at *
 obtain ⟨t,ht,rfl,_⟩:=code_all hL h4 h5
 have hcan:VB ord (nds L) (code L t)↔post t []=L:=by
  rw [←Cano_iff hL ht]
  exact ⟨fun h=>h.2.2.2,fun h=>⟨h1,by rw [nds_len];exact h2,⟨ho,h4,by rw [nds_len];exact h5⟩,h⟩⟩
 have hc':c=true↔post t []=L:=by rw [hc,decide_eq_true_iff];exact hcan
 obtain ⟨n,_,e91⟩:=v91 nl nl' ord hL (by omega) t ht hn (by simp [maxLenD];omega)
 simp [h1,f2,ho,h4,h5,e91,v92 n nl' (nds (post t [])) (nds L) (by rw [nds_len];unfold Bd at *;omega)]
 obtain ⟨pc,ps,_⟩:=post_in hL Cl_nil (by simp) ht
 by_cases e:post t []=L
 ·simp [e,hc'.2 e]
 ·have hcf:c=false:=by rw [←Bool.not_eq_true,hc'];exact e
  have:¬nds (post t [])=nds L:=fun h=>e (nds_inj pc hL h)
  simp [this,hcf]
end Go.Proofs.YtjniafcnjbbomaaGreatDoor.DE.V

namespace Go.Proofs.YtjniafcnjbbomaaGreatDoor.DE.V
open Go NL BT
def qOf (l:List Ch) (r:Row):Fq:=match l.find? (fun c=>decide (c.1=r)) with | some c=>qc c | none=>(1,1)
theorem qOf_ok {l:List Ch} (hok:OkL l) (hv:VL l) (r:Row):VQ (qOf l r)∧Rq (qOf l r) (ofD l r)∧(qOf l r).1≤(qOf l r).2:=by
 unfold qOf ofD
 cases h:l.find? (fun c=>decide (c.1=r)) with
 | none=>exact ⟨VQ_one,⟨false,false,rfl,fun h=>(by cases h),fun h=>(by cases h)⟩,Nat.le_refl _⟩
 | some c=>
  have hm:=List.mem_of_find?_eq_some h
  exact vc_q (hok c hm) (hv.all c hm)
def dstep (ord:List Row) (l:List Ch) (o:Option (List Fq)) (x:Nd):Option (List Fq):=
 o.bind fun vs=>(mix (qOf l (ord.getD x.1.toNat (0,0))) (vs.getD x.2.1.toNat (0,1)) (vs.getD x.2.2.toNat (0,1))).map fun q=>vs++[q]
def dvals (ord:List Row) (l:List Ch) (ns:List Nd):Option (List Fq):=ns.foldl (dstep ord l) (some [(0,1),(1,1)])
def dres (ord:List Row) (l:List Ch) (ns:List Nd) (root:Int):Option Fq:=(dvals ord l ns).map fun vs=>vs.getD root.toNat (0,1)
theorem dvals_snoc (ord:List Row) (l:List Ch) (ns:List Nd) (x:Nd):dvals ord l (ns++[x])=dstep ord l (dvals ord l ns) x:=by simp [dvals]
theorem dvals_none (ord:List Row) (l:List Ch):∀ ns:List Nd,ns.foldl (dstep ord l) none=none
 | []=>rfl
 | x::ns=>by rw [List.foldl_cons];exact dvals_none ord l ns
theorem dvals_take {ord:List Row} {l:List Ch} {ns:List Nd} {i:Nat} (h:dvals ord l (ns.take i)=none):dvals ord l ns=none:=by
 have e:ns=ns.take i++ns.drop i:=(List.take_append_drop i ns).symm
 rw [e,dvals,List.foldl_append]
 have:(ns.take i).foldl (dstep ord l) (some [(0,1),(1,1)])=none:=h
 rw [this]
 exact dvals_none ord l _
theorem getD_vq {vs:List Fq} (h:∀ q,q∈vs→VQ q) (i:Nat):VQ (vs.getD i (0,1)):=by
 rw [List.getD_eq_getElem?_getD]
 cases hi:vs[i]? with
 | none=>exact VQ_zero
 | some q=>exact h q (List.mem_of_getElem? hi)
theorem dvals_vq {ord:List Row} {l:List Ch} (hok:OkL l) (hv:VL l):∀ (ns:List Nd) (o:Option (List Fq)),(∀ vs,o=some vs→∀ q,q∈vs→VQ q)→∀ vs,ns.foldl (dstep ord l) o=some vs→∀ q,q∈vs→VQ q
 | [],o,ho,vs,h=>ho vs h
 | x::ns,o,ho,vs,h=>by
  rw [List.foldl_cons] at h
  refine dvals_vq hok hv ns _ ?_ vs h
  intro vs' hs q hq
  cases o with
  | none=>cases hs
  | some us=>
   unfold dstep at hs
   rw [Option.bind_some] at hs
   obtain ⟨vq,_,hle⟩:=qOf_ok hok hv (ord.getD x.1.toNat (0,0))
   cases hm:mix (qOf l (ord.getD x.1.toNat (0,0))) (us.getD x.2.1.toNat (0,1)) (us.getD x.2.2.toNat (0,1)) with
   | none=>rw [hm] at hs;cases hs
   | some r=>
    rw [hm,Option.map_some] at hs
    injection hs with hs
    subst hs
    rcases List.mem_append.1 hq with h' | h'
    ·exact ho us rfl q h'
    ·rw [List.mem_singleton.1 h']
     exact mix_vq vq hle (getD_vq (ho us rfl) _) (getD_vq (ho us rfl) _) hm
end Go.Proofs.YtjniafcnjbbomaaGreatDoor.DE.V

namespace Go.Proofs.YtjniafcnjbbomaaGreatDoor.DE.V
open Go NL BT
def VsOk (vs:List Fq) (xs:List (List D)):Prop:=xs.length=vs.length∧∀ (i:Nat) (q:Fq),vs[i]? = some q→∃ n1 n2,xs[i]? = some [eLims n1 (ofN q.1) .ro,eLims n2 (ofN q.2) .ro]∧NF n1 (ofN q.1)∧NF n2 (ofN q.2)
theorem VsOk.at {vs:List Fq} {xs:List (List D)} (h:VsOk vs xs) {i:Nat} (hi:i<vs.length):∃ cs,xs[i]? = some cs∧Rq (vs.getD i (0,1)) (.agg cs)∧cs.length=2:=by
 obtain ⟨q,hq⟩:∃ q,vs[i]? = some q:=⟨vs[i],List.getElem?_eq_getElem hi⟩
 obtain ⟨n1,n2,h1,h2,h3⟩:=h.2 i q hq
 refine ⟨_,h1,⟨n1,n2,?_,?_,?_⟩,rfl⟩
 all_goals rw [List.getD_eq_getElem?_getD,hq,Option.getD_some]
 ·rfl
 ·exact h2
 ·exact h3
theorem VsOk.snoc {vs:List Fq} {xs:List (List D)} (h:VsOk vs xs) {q:Fq} {d:D} (hq:Rq q d):∃ cs,cellsK 2 true d=some cs∧VsOk (vs++[q]) (xs++[cs]):=by
 obtain ⟨n1,n2,rfl,f1,f2⟩:=hq
 refine ⟨_,rfl,by simp [h.1],fun i q' hi=>?_⟩
 rcases Nat.lt_or_ge i vs.length with hl | hl
 ·rw [List.getElem?_append_left hl] at hi
  obtain ⟨m1,m2,k1,k2⟩:=h.2 i q' hi
  exact ⟨m1,m2,by rw [List.getElem?_append_left (by rw [h.1];exact hl)];exact k1,k2⟩
 ·rw [List.getElem?_append_right hl] at hi
  have h0:i-vs.length=0:=by
   have:=(List.getElem?_eq_some_iff.1 hi).1
   simp at this;omega
  rw [h0] at hi
  simp at hi
  subst hi
  exact ⟨n1,n2,by rw [List.getElem?_append_right (by rw [h.1];exact hl),h.1,h0];rfl,f1,f2⟩
def J10 (nl nl' nc:Bool) (ord:List Row) (ns:List Nd) (root:Int) (l:List Ch):Nat→List D→Store→Prop:=fun n fr S=>∃ k vs xs t a5 a27,n=ns.length-k∧k≤ns.length∧dvals ord l (ns.take k)=some vs∧List.length vs=k+2∧VsOk vs xs∧sget S t=some (.tok true) ∧
 sget S 0=some (.box [eRows nl ord,eNds nl' ns,.i .i64 root])∧QAt S 1 zeroQ ∧
 fr=mkf 70 [(1,eChs nc l),(2,.bx 0 0),(4,.bx 1 0),(5,a5),(6,.sl 2 false xs (.tok t)),(7,.i .i64 k),(27,a27)]
theorem fin10 {ord:List Row} {l:List Ch} {ns:List Nd} {root:Int} {vs:List Fq} {d:D} (h:dvals ord l ns=some vs) (hq:Rq (vs.getD root.toNat (0,1)) d):RT (dres ord l ns root) 6 (stripT (.tup [d,.i .i64 0])):=by
 unfold dres
 rw [h]
 refine ⟨d,?_,hq⟩
 show D.tup [strip d,_]=_
 rw [hq.strip]
 rfl
set_option maxHeartbeats 1000000 in
theorem v10_ok (nl nl' nc:Bool) (ord:List Row) (ns:List Nd) (root:Int) (l:List Ch) (hV:VB ord ns root) (hok:OkL l) (hv:VL l) (hb:Bd l.length):∃ r,isoCall (call dp) 10 [eB nl nl' ord ns root,eChs nc l]=some r∧RT (dres ord l ns root) 6 r:=by
 apply j10 _ _ _ (by simp [noRefL]) (fun r h=>h.noRef)
 have hlen:=hV.2.1
 have hord:=hV.1.2
 have u44:=v44 nl nl' ord ns root (by unfold Bd;omega) (by unfold Bd;omega)
 have u15:=v15 nc l hok hb
 have hcv:cellsV 2 true [eQ true false (ofN 0) (ofN 1),eQ false false (ofN 1) (ofN 1)]=some [[eLims true (ofN 0) .ro,eLims false (ofN 1) .ro],[eLims false (ofN 1) .ro,eLims false (ofN 1) .ro]]:=rfl
 have hld:∀ S:Store,ldD [Ent.box [.sl 1 true [] .ro,.sl 1 true [] .ro],.box [eRows nl ord,eNds nl' ns,.i .i64 root]] 3 true (.bx 0 0)=some (eB nl nl' ord ns root):=fun _=>rfl
 simp only [s10,strip_eB,strip_chs,bxx_eq,cellsK_eB,OX_some,al_eq,List.length_cons,List.length_nil,Nat.zero_add,hld [],u44,u15,hV,hv,decide_true,un_not,Bool.not_true,gsel_ff,pick_f,WB_false,v45,v46,hcv]
 generalize hR:QS (call dp) c10_r0 _=R
 refine W_loop (J10 nl nl' nc ord ns root l) ?_ ns.length _ _ ⟨0,[(0,1),(1,1)],_,2,.top,.top,by omega,by omega,rfl,rfl,⟨rfl,?_⟩,rfl,rfl,⟨_,_,rfl,rfl⟩,rfl⟩
 rotate_left
 ·intro i q hi
  match i with
  | 0=>simp at hi;subst hi;exact ⟨true,false,rfl,fun _=>ofN_zero,fun h=>(by cases h)⟩
  | 1=>simp at hi;subst hi;exact ⟨false,false,rfl,fun h=>(by cases h),fun h=>(by cases h)⟩
  | i+2=>simp at hi
 rintro n fr S ⟨k,vs,xs,t,a5,a27,rfl,hk,hd,hvl,hxs,ht,hB,q1,rfl⟩
 rw [←wp_W,e10_0]
 by_cases hlt:k<ns.length
 ·obtain ⟨⟨x1,x2,x3⟩,hx⟩:∃ x,ns[k]? = some x:=⟨ns[k],List.getElem?_eq_getElem hlt⟩
  have hnd:=okNd_of hx hV.2.2.1.1
  have hkl:(ns.take k).length=k:=by rw [List.length_take];omega
  obtain ⟨⟨b1,b2⟩,⟨⟨b3,b4⟩,⟨b5,b6⟩⟩,_⟩:=hnd
  simp only [hkl] at b1 b2 b3 b4 b5 b6
  obtain ⟨a1,rfl⟩:∃ n:Nat,x1=n:=⟨x1.toNat,by omega⟩
  obtain ⟨a2,rfl⟩:∃ n:Nat,x2=n:=⟨x2.toNat,by omega⟩
  obtain ⟨a3,rfl⟩:∃ n:Nat,x3=n:=⟨x3.toNat,by omega⟩
  obtain ⟨r,hr⟩:∃ r,ord[a1]? = some r:=⟨ord[a1],List.getElem?_eq_getElem (by omega)⟩
  obtain ⟨cl,hcl,rql,ll⟩:=hxs.at (i:=a2) (by omega)
  obtain ⟨ch,hch,rqh,lh⟩:=hxs.at (i:=a3) (by omega)
  have hgr:ord.getD ((a1:Int)).toNat (0,0)=r:=by rw [Int.toNat_natCast,List.getD_eq_getElem?_getD,hr];rfl
  have hvq:=fun q hq=>dvals_vq hok hv (ns.take k) (some [(0,1),(1,1)]) (fun vs h q hq=>by
   injection h with h
   subst h
   rcases List.mem_cons.1 hq with h | h
   ·rw [h];exact VQ_zero
   ·rw [List.mem_singleton.1 h];exact VQ_one) vs hd q hq
  obtain ⟨vq,rq,hle⟩:=qOf_ok hok hv r
  obtain ⟨r47,e47,h47⟩:=v47 _ _ _ _ _ _ rq rql rqh vq (getD_vq hvq a2) (getD_vq hvq a3) hle
  obtain ⟨dq,e,rfl,hst⟩:=h47.split
  have u18:=v18 nc l r hb
  have ia1:iaD 3 (eNds nl' ns) (.i .i64 (k:Int))=some (.el (eNd ((a1:Int),(a2:Int),(a3:Int))) 0):=iaD_nds .i64 hx
  have ia2:iaD 2 (eRows nl ord) (.i .i64 (a1:Int))=some (.el (eRow r) 0):=ia_rows hr
  have ia3:iaD 2 (.sl 2 false xs (.tok t)) (.i .i64 (a2:Int))=some (.el cl 0):=by simp [iaD,hcl]
  have ia4:iaD 2 (.sl 2 false xs (.tok t)) (.i .i64 (a3:Int))=some (.el ch 0):=by simp [iaD,hch]
  have ldl:∀ S:Store,ldD S 2 true (.el cl 0)=some (.agg cl):=fun S=>rdK_all ll
  have ldh:∀ S:Store,ldD S 2 true (.el ch 0)=some (.agg ch):=fun S=>rdK_all lh
  have hB0:ldD S 1 false (.bx 0 1)=some (eNds nl' ns):=by rw [ldD_bx,hB];rfl
  have hst3:stD (Ent.box [.i .i64 0,.i .i64 0,.i .i64 0]::S) 3 true (.bx S.length 0) (.agg (eNd ((a1:Int),(a2:Int),(a3:Int))))=some (.box (eNd ((a1:Int),(a2:Int),(a3:Int)))::S):=by
   rw [stD_bx,sget_top,stE_box']
   simp
  have g1:Grow S (.box (eNd ((a1:Int),(a2:Int),(a3:Int)))::S):=(Grow.refl S).cons _
  have hB1:=g1.get hB
  have t0:∀ o v,(eNd ((a1:Int),(a2:Int),(a3:Int)))[o]? = some v→ldD (Ent.box (eNd ((a1:Int),(a2:Int),(a3:Int)))::S) 1 false (.bx S.length o)=some v:=fun o v h=>by
   rw [ldD_bx,sget_top];exact h
  have hB1r:ldD (Ent.box (eNd ((a1:Int),(a2:Int),(a3:Int)))::S) 1 false (.bx 0 0)=some (eRows nl ord):=by rw [ldD_bx,hB1];rfl
  have fan:∀ id o p,faD o (.bx id p)=some (.bx id (p+o)):=fun _ _ _=>rfl
  simp only [s10_0,fan,Nat.zero_add,hB0,OX_some,lenD_nds,lss_nat,hlt,decide_true,WB_true,ia1,ldD_el_nd,al_eq,hst3,hB1r,t0 0 _ rfl,t0 1 _ rfl,t0 2 _ rfl,ia2,ldD_el_row,u18,ia3,ia4,ldl,ldh,e47,ext_eq,List.getElem?_cons_zero,List.getElem?_cons_succ]
  have g2:Grow S (.box [.sl 1 true [] .ro,.sl 1 true [] .ro] :: .box (eNd ((a1:Int),(a2:Int),(a3:Int)))::S):=g1.cons _
  have hl2:List.length (Ent.box (eNd ((a1:Int),(a2:Int),(a3:Int)))::S)=S.length+1:=rfl
  have q3:QAt (.box [.sl 1 true [] .ro,.sl 1 true [] .ro] :: .box (eNd ((a1:Int),(a2:Int),(a3:Int)))::S) (S.length+1) zeroQ:=QAt.nil _
  have t1:∀ o v,(eNd ((a1:Int),(a2:Int),(a3:Int)))[o]? = some v→ldD (Ent.box [.sl 1 true [] .ro,.sl 1 true [] .ro] :: .box (eNd ((a1:Int),(a2:Int),(a3:Int)))::S) 1 false (.bx S.length o)=some v:=fun o v h=>by
   rw [ldD_bx,sget_push (sget_top _ _)];exact h
  have hB2r:ldD (Ent.box [.sl 1 true [] .ro,.sl 1 true [] .ro] :: .box (eNd ((a1:Int),(a2:Int),(a3:Int)))::S) 1 false (.bx 0 0)=some (eRows nl ord):=by rw [ldD_bx,g2.get hB];rfl
  have hSt:=sget_lt ht
  have hS1:1<S.length:=sget_lt q1.choose_spec.choose_spec.2
  have q1':=q1.grow g2
  have ht':=g2.get ht
  have hB':=g2.get hB
  simp only [hB2r,t1 0 _ rfl,t1 1 _ rfl,t1 2 _ rfl,OX_some,deq_self,true_and,hl2]
  generalize (Ent.box [.sl 1 true [] .ro,.sl 1 true [] .ro] :: .box (eNd ((a1:Int),(a2:Int),(a3:Int)))::S)=S38 at *
  obtain ⟨S47,e47',q47,l47,k47⟩:=q3.st hst.isQ
  have q1n:=q1'.ne k47 (by omega)
  simp only [e47',OX_some,neq0]
  have hdv:dvals ord l (ns.take (k+1))=(mix (qOf l r) (vs.getD a2 (0,1)) (vs.getD a3 (0,1))).map fun q=>vs++[q]:=by
   rw [take_snoc hx,dvals_snoc,hd]
   unfold dstep
   rw [Option.bind_some,hgr]
   rfl
  cases ho:mix (qOf l r) (vs.getD a2 (0,1)) (vs.getD a3 (0,1)) with
  | none=>
   rw [ho] at hst hdv
   obtain ⟨rfl,_⟩:=hst
   obtain ⟨S51,e51,q51,l51,k51⟩:=q1n.st isQ_zero
   have hn:dvals ord l ns=none:=dvals_take hdv
   simp only [show decide ((6:Int)=0)=false from rfl,Bool.not_false,WB_true,bld0,OX_some,zero_agg,e51,Qseq_ret,Qblk_ret]
   rw [←hR]
   show OX (ldc S51 2 true (.bx 1 0)) fun d=>RT (dres ord l ns root) 6 (stripT (.tup [d,.i .i64 6]))
   rw [q51.ldc,OX_some]
   unfold dres
   rw [hn]
   rfl
  | some q=>
   rw [ho] at hst hdv
   obtain ⟨rfl,hq⟩:=hst
   obtain ⟨cs,hcs,hxs'⟩:=hxs.snoc hq
   have hcv1:cellsV 2 true [dq]=some [cs]:=by simp only [cellsV,hcs]
   have ht47:sget S47 t=some (.tok true):=by rw [k47 t (by omega)];exact ht'
   have happ:=app_tok (S:=S47) (k:=2) (n':=false) (xs:=xs) (ys:=[cs]) (o':=.ro) (by rw [hxs.1,hvl];unfold maxLenD;simp;omega) ht47
   simp only [show decide ((0:Int)=0)=true from rfl,Bool.not_true,WB_false,q47.ld,OX_some,hcv1,happ,inc_nat (show Bd k by unfold Bd;omega),Qseq_normal]
   have hne:∀ j e,j≠t→sget S47 j=some e→sget (Ent.tok true::sset S47 t (.tok false)) j=some e:=fun j e h1 h2=>sget_push (by rw [sget_sset_ne _ h1];exact h2)
   have h0t:0≠t:=by rintro rfl;rw [hB] at ht;cases ht
   have h1t:1≠t:=by
    rintro rfl
    obtain ⟨u,v,_,h⟩:=q1
    rw [h] at ht;cases ht
   refine ⟨ns.length-(k+1),by omega,k+1,vs++[q],xs++[cs],S47.length,a5,.top,rfl,by omega,hdv,by simp [hvl],hxs',?_,?_,?_,rfl⟩
   ·rw [←sset_len (Ent.tok false) S47 t]
    exact sget_top _ _
   ·exact hne 0 _ h0t (by rw [k47 0 (by omega)];exact hB')
   ·obtain ⟨u,v,hz,h⟩:=q1n
    exact ⟨u,v,hz,hne 1 _ h1t h⟩
 ·have:k=ns.length:=by omega
  subst this
  rw [List.take_length] at hd
  have hroot:=hV.2.2.1.2
  obtain ⟨a,rfl⟩:∃ n:Nat,root=n:=⟨root.toNat,by omega⟩
  obtain ⟨cl,hcl,rql,ll⟩:=hxs.at (i:=a) (by omega)
  have ia:iaD 2 (.sl 2 false xs (.tok t)) (.i .i64 (a:Int))=some (.el cl 0):=by simp [iaD,hcl]
  have ldl:ldD S 2 true (.el cl 0)=some (.agg cl):=rdK_all ll
  have hB0:ldD S 1 false (.bx 0 1)=some (eNds nl' ns):=by rw [ldD_bx,hB];rfl
  have hB2:ldD S 1 false (.bx 0 2)=some (.i .i64 (a:Int)):=by rw [ldD_bx,hB];rfl
  obtain ⟨S4,e4,q5,l4,k4⟩:=q1.st rql.isQ
  have fan:∀ id o p,faD o (.bx id p)=some (.bx id (p+o)):=fun _ _ _=>rfl
  simp only [s10_0,fan,Nat.zero_add,hB0,OX_some,lenD_nds,lss_nat,hlt,decide_false,WB_false,Qseq_exit,Qblk_same]
  rw [←hR]
  simp only [QS_normal,e10_r0,s10_r0,fan,Nat.zero_add,hB2,OX_some,ia,ldl,e4]
  show OX (ldc S4 2 true (.bx 1 0)) fun d=>RT (dres ord l ns (a:Int)) 6 (stripT (.tup [d,.i .i64 0]))
  rw [q5.ldc,OX_some]
  exact fin10 hd rql
theorem v10_bad (nl nl' nc:Bool) (ord:List Row) (ns:List Nd) (root:Int) (l:List Ch) (hV:¬(VB ord ns root∧VL l)) (hok:OkL l) (hb:Bd l.length) (b1:Bd (ns.length+2)) (b2:Bd ord.length):isoCall (call dp) 10 [eB nl nl' ord ns root,eChs nc l]=some (.tup [zeroQ,.i .i64 1]):=by
 apply i10 _ _ _ (by simp [noRefL]) (by simp [zeroQ,noRef,noRefL])
 have u44:=v44 nl nl' ord ns root b1 b2
 have u15:=v15 nc l hok hb
 have hld:ldD [Ent.box [.sl 1 true [] .ro,.sl 1 true [] .ro],.box [eRows nl ord,eNds nl' ns,.i .i64 root]] 3 true (.bx 0 0)=some (eB nl nl' ord ns root):=rfl
 have hq:QAt [Ent.box [.sl 1 true [] .ro,.sl 1 true [] .ro],.box [eRows nl ord,eNds nl' ns,.i .i64 root]] 1 zeroQ:=⟨_,_,rfl,rfl⟩
 obtain ⟨S3,e3,q3,l3,k3⟩:=hq.st isQ_zero
 by_cases h:VB ord ns root
 ·have hv:¬VL l:=fun k=>hV ⟨h,k⟩
  simp only [s10,strip_eB,strip_chs,bxx_eq,cellsK_eB,OX_some,al_eq,List.length_cons,List.length_nil,Nat.zero_add,hld,u44,u15,h,hv,decide_true,decide_false,un_not,Bool.not_true,Bool.not_false,gsel_ff,pick_f,WB_true,bld0,zero_agg,e3,q3.ldc]
  rfl
 ·simp only [s10,strip_eB,strip_chs,bxx_eq,cellsK_eB,OX_some,al_eq,List.length_cons,List.length_nil,Nat.zero_add,hld,u44,h,decide_false,un_not,Bool.not_false,gsel_tf,pick_t,WB_true,bld0,zero_agg,e3,q3.ldc]
  rfl
end Go.Proofs.YtjniafcnjbbomaaGreatDoor.DE.V

namespace Go.Proofs.YtjniafcnjbbomaaGreatDoor.DE.V
open Go NL BT
def VsSt (o:Option (List Fq)) (e:Int) (n:Nat) (xs:List (List D)):Prop:=match o with
 | some vs=>e=0∧vs.length=n∧VsOk vs xs
 | none=>e=6∧xs.length=n∧∀ (i:Nat) (cs:List D),xs[i]? = some cs→IsQ (.agg cs)
theorem VsSt.len {o:Option (List Fq)} {e:Int} {n:Nat} {xs:List (List D)} (h:VsSt o e n xs):xs.length=n:=by
 cases o with
 | some vs=>exact h.2.2.1.trans h.2.1
 | none=>exact h.2.1
theorem VsSt.isQ {o:Option (List Fq)} {e:Int} {n:Nat} {xs:List (List D)} (h:VsSt o e n xs) {i:Nat} (hi:i<n):∃ cs,xs[i]? = some cs∧IsQ (.agg cs)∧cs.length=2:=by
 cases o with
 | some vs=>
  obtain ⟨cs,h1,h2,h3⟩:=h.2.2.at (i:=i) (by rw [h.2.1];exact hi)
  exact ⟨cs,h1,h2.isQ,h3⟩
 | none=>
  obtain ⟨cs,hc⟩:∃ cs,xs[i]? = some cs:=⟨xs[i]'(by rw [h.2.1];exact hi),List.getElem?_eq_getElem _⟩
  obtain ⟨n1,n2,a,b,e⟩:=h.2.2 i cs hc
  have:cs=[eLims n1 a .ro,eLims n2 b .ro]:=by injection e
  exact ⟨cs,hc,⟨n1,n2,a,b,e⟩,by rw [this];rfl⟩
def J9 (nl nl' nc:Bool) (ord:List Row) (ns:List Nd) (root:Int) (l:List Ch):Nat→List D→Store→Prop:=fun n fr S=>∃ k e xs t a5 a28,n=ns.length-k∧k≤ns.length∧VsSt (dvals ord l (ns.take k)) e (k+2) xs∧sget S t=some (.tok true) ∧
 sget S 0=some (.box [eRows nl ord,eNds nl' ns,.i .i64 root])∧QAt S 1 zeroQ∧EAt S 2 e ∧
 fr=mkf 68 [(1,eChs nc l),(2,.bx 0 0),(4,.bx 1 0),(5,a5),(6,.bx 2 0),(7,.sl 2 false xs (.tok t)),(25,eNds nl' ns),(26,.i .i64 ns.length),(27,.i .i64 k),(28,a28)]
theorem mul_any (ide:Nat) (o:Option (Fq × Fq)) (e:Int) (da db:D) (S:Store) (hE:EAt S ide e) (h:match o with | some (a,b)=>e=0∧Rq a da∧Rq b db∧VQ a∧VQ b | none=>e=6∧IsQ da∧IsQ db) :
  ∃ d e' S',call dp 40 [.bx ide 0,da,db] S=some (d,S')∧St (o.bind fun p=>pmul p.1 p.2) e' d∧EAt S' ide e'∧Keeps S S' ide:=by
 cases o with
 | some p=>
  obtain ⟨rfl,ha,hb,va,vb⟩:=h
  exact v40 ide p.1 p.2 da db S hE ha hb va vb
 | none=>
  obtain ⟨rfl,ha,hb⟩:=h
  obtain ⟨S',h1,h2,h3⟩:=v40e ide 6 da db S hE (by decide) ha hb
  exact ⟨zeroQ,6,S',h1,⟨rfl,isQ_zero⟩,h2,h3⟩
theorem add_any (ide:Nat) (o:Option (Fq × Fq)) (e:Int) (da db:D) (S:Store) (hE:EAt S ide e) (h:match o with | some (a,b)=>e=0∧Rq a da∧Rq b db∧VQ a∧VQ b | none=>e=6∧IsQ da∧IsQ db) :
  ∃ d e' S',call dp 42 [.bx ide 0,da,db] S=some (d,S')∧St (o.bind fun p=>padd p.1 p.2) e' d∧EAt S' ide e'∧Keeps S S' ide:=by
 cases o with
 | some p=>
  obtain ⟨rfl,ha,hb,va,vb⟩:=h
  exact v42 ide p.1 p.2 da db S hE ha hb va vb
 | none=>
  obtain ⟨rfl,ha,hb⟩:=h
  obtain ⟨S',h1,h2,h3⟩:=v42e ide 6 da db S hE (by decide) ha hb
  exact ⟨zeroQ,6,S',h1,⟨rfl,isQ_zero⟩,h2,h3⟩
def LH (w:Option (Fq × Fq)) (e:Int) (dl dh:D):Prop:=match w with | some x=>e=0∧Rq x.1 dl∧Rq x.2 dh∧VQ x.1∧VQ x.2 | none=>e=6∧IsQ dl∧IsQ dh
theorem VsSt.two {o:Option (List Fq)} {e:Int} {n:Nat} {xs:List (List D)} (h:VsSt o e n xs) (hq:∀ vs,o=some vs→∀ q,q∈vs→VQ q) {i j:Nat} (hi:i<n) (hj:j<n) :
  ∃ cl ch,xs[i]? = some cl∧xs[j]? = some ch∧cl.length=2∧ch.length=2∧LH (o.map fun vs=>(vs.getD i (0,1),vs.getD j (0,1))) e (.agg cl) (.agg ch):=by
 obtain ⟨cl,c1,c2,c3⟩:=h.isQ hi
 obtain ⟨ch,k1,k2,k3⟩:=h.isQ hj
 refine ⟨cl,ch,c1,k1,c3,k3,?_⟩
 cases o with
 | none=>exact ⟨h.1,c2,k2⟩
 | some vs=>
  obtain ⟨cl',d1,d2,_⟩:=h.2.2.at (i:=i) (by rw [h.2.1];exact hi)
  obtain ⟨ch',e1,e2,_⟩:=h.2.2.at (i:=j) (by rw [h.2.1];exact hj)
  rw [c1] at d1;injection d1 with d1;subst d1
  rw [k1] at e1;injection e1 with e1;subst e1
  exact ⟨h.1,d2,e2,getD_vq (hq vs rfl) i,getD_vq (hq vs rfl) j⟩
theorem op41 {w:Option (Fq × Fq)} {e:Int} {dl dh:D} (h:LH w e dl dh) {p:Fq} {dc:D} (S:Store) (hE:EAt S 2 e) (hp:Rq p dc) (vp:VQ p) (hle:p.1≤p.2) :
  ∃ d S',call dp 41 [.bx 2 0,dc] S=some (d,S')∧(∀ x,w=some x→Rq (pcompl p) d)∧IsQ d∧EAt S' 2 e∧Keeps S S' 2:=by
 obtain ⟨d,S',h1,h2,h3,h4⟩:=v41 2 e p dc S hE hp vp hle
 refine ⟨d,S',h1,?_,?_,h3,h4⟩
 ·intro x hx
  subst hx
  rwa [if_pos h.1] at h2
 ·split at h2
  ·exact h2.isQ
  ·rw [h2];exact isQ_zero
theorem op40a {w:Option (Fq × Fq)} {e:Int} {dl dh:D} (h:LH w e dl dh) {p:Fq} {d:D} (S:Store) (hE:EAt S 2 e) (hd:∀ x,w=some x→Rq (pcompl p) d) (hi:IsQ d) (vp:VQ p) (hle:p.1≤p.2) :
  ∃ d' e' S',call dp 40 [.bx 2 0,d,dl] S=some (d',S')∧St (w.bind fun x=>pmul (pcompl p) x.1) e' d'∧EAt S' 2 e'∧Keeps S S' 2:=by
 cases w with
 | none=>exact mul_any 2 none e d dl S hE ⟨h.1,hi,h.2.1⟩
 | some x=>exact mul_any 2 (some (pcompl p,x.1)) e d dl S hE ⟨h.1,hd x rfl,h.2.1,VQ_compl vp hle,h.2.2.2.1⟩
theorem op40b {w:Option (Fq × Fq)} {e:Int} {dl dh:D} (h:LH w e dl dh) {p:Fq} {dc d1:D} {e1:Int} (h1:St (w.bind fun x=>pmul (pcompl p) x.1) e1 d1) (S:Store) (hE:EAt S 2 e1) (hp:Rq p dc) (vp:VQ p) :
  ∃ d' e' S',call dp 40 [.bx 2 0,dc,dh] S=some (d',S')∧St (w.bind fun x=>(pmul (pcompl p) x.1).bind fun _=>pmul p x.2) e' d'∧EAt S' 2 e'∧Keeps S S' 2:=by
 cases w with
 | none=>exact mul_any 2 none e1 dc dh S hE ⟨h1.1,hp.isQ,h.2.2⟩
 | some x=>
  rw [Option.bind_some] at h1 ⊢
  cases ha:pmul (pcompl p) x.1 with
  | none=>
   rw [ha] at h1
   exact mul_any 2 none e1 dc dh S hE ⟨h1.1,hp.isQ,h.2.2.1.isQ⟩
  | some a=>
   rw [ha] at h1
   exact mul_any 2 (some (p,x.2)) e1 dc dh S hE ⟨h1.1,hp,h.2.2.1,vp,h.2.2.2.2⟩
theorem op42 {w:Option (Fq × Fq)} {e:Int} {dl dh:D} (h:LH w e dl dh) {p:Fq} {d1 d2:D} {e1 e2:Int} (h1:St (w.bind fun x=>pmul (pcompl p) x.1) e1 d1) (h2:St (w.bind fun x=>(pmul (pcompl p) x.1).bind fun _=>pmul p x.2) e2 d2) (S:Store) (hE:EAt S 2 e2) (vp:VQ p) (hle:p.1≤p.2) :
  ∃ d' e' S',call dp 42 [.bx 2 0,d1,d2] S=some (d',S')∧St (w.bind fun x=>mix p x.1 x.2) e' d'∧EAt S' 2 e'∧Keeps S S' 2:=by
 cases w with
 | none=>exact add_any 2 none e2 d1 d2 S hE ⟨h2.1,h1.2,h2.2⟩
 | some x=>
  rw [Option.bind_some] at h1 h2 ⊢
  cases ha:pmul (pcompl p) x.1 with
  | none=>
   have hm:mix p x.1 x.2=none:=by unfold mix;rw [ha];rfl
   rw [ha] at h1 h2
   rw [hm]
   exact add_any 2 none e2 d1 d2 S hE ⟨h2.1,h1.2,h2.2⟩
  | some a=>
   rw [ha] at h1 h2
   rw [Option.bind_some] at h2
   cases hb:pmul p x.2 with
   | none=>
    have hm:mix p x.1 x.2=none:=by unfold mix;rw [ha,Option.bind_some,hb];rfl
    rw [hb] at h2
    rw [hm]
    exact add_any 2 none e2 d1 d2 S hE ⟨h2.1,h1.isQ,h2.2⟩
   | some b=>
    have hm:mix p x.1 x.2=padd a b:=by unfold mix;rw [ha,Option.bind_some,hb,Option.bind_some]
    rw [hb] at h2
    rw [hm]
    exact add_any 2 (some (a,b)) e2 d1 d2 S hE ⟨h2.1,h1.2,h2.2,VQ_mul (VQ_compl vp hle) h.2.2.2.1 ha,VQ_mul vp h.2.2.2.2 hb⟩
theorem newQ (S:Store) {d:D} (h:IsQ d):∃ S',stD (Ent.box [.sl 1 true [] .ro,.sl 1 true [] .ro]::S) 2 true (.bx S.length 0) d=some S'∧QAt S' S.length d∧S'.length=S.length+1∧∀ j,j<S.length→sget S' j=sget S j:=by
 obtain ⟨S',h1,h2,h3,h4⟩:=(QAt.nil S).st h
 refine ⟨S',h1,h2,h3,fun j hj=>?_⟩
 rw [h4 j (by omega),sget_cons,if_neg (by omega)]
theorem VsSt.snoc {ord:List Row} {l:List Ch} {ns:List Nd} {k:Nat} {x:Nd} {r:Row} {a2 a3:Nat} {e:Int} {xs:List (List D)} (hx:ns[k]? = some x) (h:VsSt (dvals ord l (ns.take k)) e (k+2) xs)
  (hr:ord.getD x.1.toNat (0,0)=r) (h2:x.2.1.toNat=a2) (h3:x.2.2.toNat=a3) {e':Int} {d:D} (hst:St (((dvals ord l (ns.take k)).map fun vs=>(vs.getD a2 (0,1),vs.getD a3 (0,1))).bind fun x=>mix (qOf l r) x.1 x.2) e' d) :
  ∃ cs,cellsK 2 true d=some cs∧VsSt (dvals ord l (ns.take (k+1))) e' (k+1+2) (xs++[cs]):=by
 rw [take_snoc hx,dvals_snoc]
 cases ho:dvals ord l (ns.take k) with
 | none=>
  rw [ho] at h hst
  obtain ⟨rfl,n1,n2,a,b,rfl⟩:=hst
  refine ⟨_,rfl,rfl,by simp [h.2.1],fun i cs hi=>?_⟩
  rcases List.mem_append.1 (List.mem_of_getElem? hi) with hm | hm
  ·obtain ⟨i',hi'⟩:=List.mem_iff_getElem?.1 hm
   exact h.2.2 i' cs hi'
  ·rw [List.mem_singleton.1 hm]
   exact ⟨n1,n2,a,b,rfl⟩
 | some vs=>
  rw [ho] at h hst
  rw [Option.map_some,Option.bind_some] at hst
  unfold dstep
  rw [Option.bind_some,hr,h2,h3]
  cases hm:mix (qOf l r) (vs.getD a2 (0,1)) (vs.getD a3 (0,1)) with
  | none=>
   simp only [hm] at hst
   obtain ⟨rfl,n1,n2,a,b,rfl⟩:=hst
   refine ⟨_,rfl,rfl,by simp [h.2.2.1,h.2.1],fun i cs hi=>?_⟩
   rcases List.mem_append.1 (List.mem_of_getElem? hi) with hm | hm
   ·obtain ⟨i',hi'⟩:=List.mem_iff_getElem?.1 hm
    have hlt:=(List.getElem?_eq_some_iff.1 hi').1
    obtain ⟨cs',c1,c2,_⟩:=(show VsSt (some vs) e (k+2) xs from h).isQ (i:=i') (by rw [h.2.2.1,h.2.1] at hlt;exact hlt)
    rw [hi'] at c1
    injection c1 with c1
    rw [c1];exact c2
   ·rw [List.mem_singleton.1 hm]
    exact ⟨n1,n2,a,b,rfl⟩
  | some q=>
   simp only [hm] at hst
   obtain ⟨rfl,hq⟩:=hst
   obtain ⟨cs,c1,c2⟩:=h.2.2.snoc hq
   exact ⟨cs,c1,rfl,by simp [h.2.1],c2⟩
theorem fin9 {ord:List Row} {l:List Ch} {ns:List Nd} {a:Nat} {e:Int} {n:Nat} {xs:List (List D)} {cl:List D} (h:VsSt (dvals ord l ns) e n xs) (ha:a<n) (hc:xs[a]? = some cl):RT (dres ord l ns (a:Int)) 6 (stripT (.tup [if e=0 then .agg cl else zeroQ,.i .i64 e])):=by
 unfold dres
 cases ho:dvals ord l ns with
 | none=>
  rw [ho] at h
  obtain ⟨rfl,_⟩:=h
  rfl
 | some vs=>
  rw [ho] at h
  obtain ⟨rfl,hl,hx⟩:=h
  obtain ⟨cs,h1,h2,_⟩:=hx.at (i:=a) (by rw [hl];exact ha)
  rw [hc] at h1
  injection h1 with h1
  subst h1
  refine ⟨.agg cl,?_,h2⟩
  show D.tup [strip (.agg cl),_]=_
  rw [h2.strip]
  rfl
set_option maxHeartbeats 1000000 in
theorem v9_ok (nl nl' nc:Bool) (ord:List Row) (ns:List Nd) (root:Int) (l:List Ch) (hn:nl=true→ord=[]) (hV:VB ord ns root) (hok:OkL l) (hv:VL l) (hb:Bd l.length) (hf:∀ c,c∈l→c.num.length≤1000∧c.den.length≤1000):∃ r,isoCall (call dp) 9 [eB nl nl' ord ns root,eChs nc l]=some r∧RT (dres ord l ns root) 6 r:=by
 apply j9 _ _ _ (by simp [noRefL]) (fun r h=>h.noRef)
 have hlen:=hV.2.1
 have hord:=hV.1.2
 have u38:=v38 nl nl' ord ns root hn (by unfold Bd;omega) (by unfold Bd;omega)
 have u14:=v14 nc l hok hb
 have hcv:cellsV 2 true [eQ false false (ofN 0) (ofN 1),eQ false false (ofN 1) (ofN 1)]=some [[eLims false (ofN 0) .ro,eLims false (ofN 1) .ro],[eLims false (ofN 1) .ro,eLims false (ofN 1) .ro]]:=rfl
 have hld:ldD [Ent.box [.sl 1 true [] .ro,.sl 1 true [] .ro],.box [eRows nl ord,eNds nl' ns,.i .i64 root]] 3 true (.bx 0 0)=some (eB nl nl' ord ns root):=rfl
 have hbs:bslO 2 [[eLims false (ofN 0) .ro,eLims false (ofN 1) .ro],[eLims false (ofN 1) .ro,eLims false (ofN 1) .ro]] [Ent.box [.i .i64 0],.box [.sl 1 true [] .ro,.sl 1 true [] .ro],.box [eRows nl ord,eNds nl' ns,.i .i64 root]]=(.sl 2 false [[eLims false (ofN 0) .ro,eLims false (ofN 1) .ro],[eLims false (ofN 1) .ro,eLims false (ofN 1) .ro]] (.tok 3),[.tok true,Ent.box [.i .i64 0],.box [.sl 1 true [] .ro,.sl 1 true [] .ro],.box [eRows nl ord,eNds nl' ns,.i .i64 root]]):=rfl
 have hld1:ldD [.tok true,Ent.box [.i .i64 0],.box [.sl 1 true [] .ro,.sl 1 true [] .ro],.box [eRows nl ord,eNds nl' ns,.i .i64 root]] 1 false (.bx 0 1)=some (eNds nl' ns):=rfl
 have fan:∀ id o p,faD o (.bx id p)=some (.bx id (p+o)):=fun _ _ _=>rfl
 simp only [s9,strip_eB,strip_chs,bxx_eq,cellsK_eB,OX_some,al_eq,List.length_cons,List.length_nil,Nat.zero_add,Nat.reduceAdd,hld,u38,u14,hV,hv,decide_true,un_not,Bool.not_true,gsel_ff,pick_f,WB_false,v39,v28,hcv,hbs,fan,hld1,lenD_nds]
 generalize hR:QS (call dp) c9_r0 _=R
 refine W_loop (J9 nl nl' nc ord ns root l) ?_ ns.length _ _ ⟨0,0,_,3,.top,.top,by omega,by omega,⟨rfl,rfl,rfl,?_⟩,rfl,rfl,⟨_,_,rfl,rfl⟩,rfl,rfl⟩
 rotate_left
 ·intro i q hi
  match i with
  | 0=>simp at hi;subst hi;exact ⟨false,false,rfl,fun h=>(by cases h),fun h=>(by cases h)⟩
  | 1=>simp at hi;subst hi;exact ⟨false,false,rfl,fun h=>(by cases h),fun h=>(by cases h)⟩
  | i+2=>simp at hi
 rintro n fr S ⟨k,e,xs,t,a5,a28,rfl,hk,hvs,ht,hB,q1,hE,rfl⟩
 rw [←wp_W,e9_0]
 have hSt:=sget_lt ht
 have hS2:2<S.length:=sget_lt hE
 by_cases hlt:k<ns.length
 ·obtain ⟨⟨x1,x2,x3⟩,hx⟩:∃ x,ns[k]? = some x:=⟨ns[k],List.getElem?_eq_getElem hlt⟩
  have hnd:=okNd_of hx hV.2.2.1.1
  have hkl:(ns.take k).length=k:=by rw [List.length_take];omega
  obtain ⟨⟨b1,b2⟩,⟨⟨b3,b4⟩,⟨b5,b6⟩⟩,_⟩:=hnd
  simp only [hkl] at b1 b2 b3 b4 b5 b6
  obtain ⟨a1,rfl⟩:∃ n:Nat,x1=n:=⟨x1.toNat,by omega⟩
  obtain ⟨a2,rfl⟩:∃ n:Nat,x2=n:=⟨x2.toNat,by omega⟩
  obtain ⟨a3,rfl⟩:∃ n:Nat,x3=n:=⟨x3.toNat,by omega⟩
  obtain ⟨r,hr⟩:∃ r,ord[a1]? = some r:=⟨ord[a1],List.getElem?_eq_getElem (by omega)⟩
  have hgr:ord.getD ((a1:Int)).toNat (0,0)=r:=by rw [Int.toNat_natCast,List.getD_eq_getElem?_getD,hr];rfl
  have hvq:∀ vs,dvals ord l (ns.take k)=some vs→∀ q,q∈vs→VQ q:=fun vs hd q hq=>dvals_vq hok hv (ns.take k) (some [(0,1),(1,1)]) (fun vs h q hq=>by
   injection h with h
   subst h
   rcases List.mem_cons.1 hq with h | h
   ·rw [h];exact VQ_zero
   ·rw [List.mem_singleton.1 h];exact VQ_one) vs hd q hq
  obtain ⟨cl,ch,hcl,hch,ll,lh,hLH⟩:=hvs.two hvq (i:=a2) (j:=a3) (by omega) (by omega)
  obtain ⟨vq,rq,hle⟩:=qOf_ok hok hv r
  have u17:=v17 nc l r hok hb hf
  have ia1:iaD 3 (eNds nl' ns) (.i .i64 (k:Int))=some (.el (eNd ((a1:Int),(a2:Int),(a3:Int))) 0):=iaD_nds .i64 hx
  have ia2:iaD 2 (eRows nl ord) (.i .i64 (a1:Int))=some (.el (eRow r) 0):=ia_rows hr
  have ia3:iaD 2 (.sl 2 false xs (.tok t)) (.i .i64 (a2:Int))=some (.el cl 0):=by simp [iaD,hcl]
  have ia4:iaD 2 (.sl 2 false xs (.tok t)) (.i .i64 (a3:Int))=some (.el ch 0):=by simp [iaD,hch]
  have ldl:∀ S:Store,ldD S 2 true (.el cl 0)=some (.agg cl):=fun S=>rdK_all ll
  have ldh:∀ S:Store,ldD S 2 true (.el ch 0)=some (.agg ch):=fun S=>rdK_all lh
  have hst3:stD (Ent.box [.i .i64 0,.i .i64 0,.i .i64 0]::S) 3 true (.bx S.length 0) (.agg (eNd ((a1:Int),(a2:Int),(a3:Int))))=some (.box (eNd ((a1:Int),(a2:Int),(a3:Int)))::S):=by
   rw [stD_bx,sget_top,stE_box']
   simp
  have g1:Grow S (.box (eNd ((a1:Int),(a2:Int),(a3:Int)))::S):=(Grow.refl S).cons _
  have hB1:=g1.get hB
  have nAt:∀ S':Store,sget S' S.length=some (.box (eNd ((a1:Int),(a2:Int),(a3:Int))))→∀ o v,(eNd ((a1:Int),(a2:Int),(a3:Int)))[o]? = some v→ldD S' 1 false (.bx S.length o)=some v:=fun S' hs o v h=>by
   rw [ldD_bx,hs];exact h
  have t0:=nAt (.box (eNd ((a1:Int),(a2:Int),(a3:Int)))::S) (sget_top _ S)
  have hB1r:ldD (Ent.box (eNd ((a1:Int),(a2:Int),(a3:Int)))::S) 1 false (.bx 0 0)=some (eRows nl ord):=by rw [ldD_bx,hB1];rfl
  have k17:=g1.keeps 2
  have hE17:EAt (.box (eNd ((a1:Int),(a2:Int),(a3:Int)))::S) 2 e:=g1.get hE
  have hN17:sget (.box (eNd ((a1:Int),(a2:Int),(a3:Int)))::S) S.length=some (.box (eNd ((a1:Int),(a2:Int),(a3:Int)))):=sget_top _ S
  have hl17:List.length (Ent.box (eNd ((a1:Int),(a2:Int),(a3:Int)))::S)=S.length+1:=rfl
  simp only [s9_0,lss_nat,hlt,decide_true,WB_true,ia1,ldD_el_nd,OX_some,al_eq,hst3,fan,Nat.zero_add,hB1r,t0 0 _ rfl,ia2,ldD_el_row,u17]
  generalize (Ent.box (eNd ((a1:Int),(a2:Int),(a3:Int)))::S)=S17 at *
  obtain ⟨S28,e28,q28,l28,k28⟩:=newQ S17 rq.isQ
  have hN28:sget S28 S.length=some (.box (eNd ((a1:Int),(a2:Int),(a3:Int)))):=by rw [k28 _ (by omega)];exact hN17
  have hE28:EAt S28 2 e:=by show sget S28 2=_;rw [k28 _ (by omega)];exact hE17
  have K28:Keeps S S28 2:=⟨by omega,fun j hj hne=>by rw [k28 j (by omega)];exact k17.get j hj hne⟩
  obtain ⟨d41,S35,e35,r41,i41,hE35,k35⟩:=op41 hLH S28 hE28 rq vq hle
  have K35:=K28.trans k35
  have hN35:sget S35 S.length=some (.box (eNd ((a1:Int),(a2:Int),(a3:Int)))):=by rw [k35.get _ (by omega) (by omega)];exact hN28
  have q35:QAt S35 S17.length (ofD l r):=k35.q q28 (by omega)
  obtain ⟨d40,e1,S39,e39,st40,hE39,k39⟩:=op40a hLH S35 hE35 r41 i41 vq hle
  have K39:=K35.trans k39
  have hl35:=k35.len
  have hl39:=k39.len
  have hN39:sget S39 S.length=some (.box (eNd ((a1:Int),(a2:Int),(a3:Int)))):=by rw [k39.get _ (by omega) (by omega)];exact hN35
  have q39:QAt S39 S17.length (ofD l r):=k39.q q35 (by omega)
  obtain ⟨S43,e43',q43,l43,k43⟩:=newQ S39 st40.isQ
  have K43:Keeps S S43 2:=⟨by have:=K39.len;omega,fun j hj hne=>by rw [k43 j (by omega)];exact K39.get j hj hne⟩
  have hN43:sget S43 S.length=some (.box (eNd ((a1:Int),(a2:Int),(a3:Int)))):=by rw [k43 _ (by omega)];exact hN39
  have hE43:EAt S43 2 e1:=by show sget S43 2=_;rw [k43 _ (by omega)];exact hE39
  have q43':QAt S43 S17.length (ofD l r):=by
   obtain ⟨u,v,hz,h⟩:=q39
   exact ⟨u,v,hz,by rw [k43 _ (by omega)];exact h⟩
  obtain ⟨d51,e2,S51,e51,st51,hE51,k51⟩:=op40b hLH st40 S43 hE43 rq vq
  have K51:=K43.trans k51
  have q51:QAt S51 S39.length d40:=k51.q q43 (by omega)
  obtain ⟨d54,e3,S54,e54,st54,hE54,k54⟩:=op42 hLH st40 st51 S51 hE51 vq hle
  have K54:=K51.trans k54
  obtain ⟨cs,hcs,hvs'⟩:=hvs.snoc hx hgr (Int.toNat_natCast a2) (Int.toNat_natCast a3) st54
  have hcv1:cellsV 2 true [d54]=some [cs]:=by simp only [cellsV,hcs]
  have h0t:0≠t:=by rintro rfl;rw [hB] at ht;cases ht
  have h1t:1≠t:=by
   rintro rfl
   obtain ⟨u,v,_,h⟩:=q1
   rw [h] at ht;cases ht
  have h2t:2≠t:=by
   rintro rfl
   rw [show sget S 2=_ from hE] at ht;cases ht
  have ht54:sget S54 t=some (.tok true):=by rw [K54.get t hSt (Ne.symm h2t)];exact ht
  have hB54:sget S54 0=_:=(K54.get 0 (by omega) (by decide)).trans hB
  have q54:QAt S54 1 zeroQ:=K54.q q1 (by decide)
  have happ:=app_tok (S:=S54) (k:=2) (n':=false) (xs:=xs) (ys:=[cs]) (o':=.ro) (by rw [hvs.len];unfold maxLenD;simp;omega) ht54
  simp only [e28,OX_some,q28.ld,nAt S28 hN28 1 _ rfl,ia3,ldl,e35,nAt S35 hN35 1 _ rfl,deq_self,true_and,e39,e43',q43.ld,q43'.ld,nAt S43 hN43 2 _ rfl,ia4,ldh,e51,q51.ld,e54,hcv1,happ,inc_nat (show Bd k by unfold Bd;omega),Qseq_normal]
  have hne:∀ j e,j≠t→sget S54 j=some e→sget (Ent.tok true::sset S54 t (.tok false)) j=some e:=fun j e h1 h2=>sget_push (by rw [sget_sset_ne _ h1];exact h2)
  refine ⟨ns.length-(k+1),by omega,k+1,e3,xs++[cs],S54.length,a5,.top,rfl,by omega,hvs',?_,?_,?_,?_,rfl⟩
  ·rw [←sset_len (Ent.tok false) S54 t]
   exact sget_top _ _
  ·exact hne 0 _ h0t hB54
  ·obtain ⟨u,v,hz,h⟩:=q54
   exact ⟨u,v,hz,hne 1 _ h1t h⟩
  ·exact hne 2 _ h2t hE54
 ·have:k=ns.length:=by omega
  subst this
  rw [List.take_length] at hvs
  have hroot:=hV.2.2.1.2
  obtain ⟨a,rfl⟩:∃ n:Nat,root=n:=⟨root.toNat,by omega⟩
  obtain ⟨cl,hcl,icl,ll⟩:=hvs.isQ (i:=a) (by omega)
  have ia:iaD 2 (.sl 2 false xs (.tok t)) (.i .i64 (a:Int))=some (.el cl 0):=by simp [iaD,hcl]
  have ldl:ldD S 2 true (.el cl 0)=some (.agg cl):=rdK_all ll
  have hB2:ldD S 1 false (.bx 0 2)=some (.i .i64 (a:Int)):=by rw [ldD_bx,hB];rfl
  obtain ⟨S6,e6,k6⟩:=v43 2 e (.agg cl) S hE icl
  have hIs:IsQ (if e=0 then .agg cl else zeroQ):=by split;exact icl;exact isQ_zero
  obtain ⟨S10,e10',q10,l10,k10⟩:=(k6.q q1 (by decide)).st hIs
  simp only [s9_0,lss_nat,hlt,decide_false,WB_false,Qseq_exit,Qblk_same]
  rw [←hR]
  simp only [QS_normal,e9_r0,s9_r0,fan,Nat.zero_add,hB2,OX_some,ia,ldl,e6,ext_eq,List.getElem?_cons_zero,List.getElem?_cons_succ,e10']
  show OX (ldc S10 2 true (.bx 1 0)) fun d=>RT (dres ord l ns (a:Int)) 6 (stripT (.tup [d,.i .i64 e]))
  rw [q10.ldc,OX_some]
  exact fin9 hvs (by omega) hcl
theorem v9_bad (nl nl' nc:Bool) (ord:List Row) (ns:List Nd) (root:Int) (l:List Ch) (hn:nl=true→ord=[]) (hV:¬(VB ord ns root∧VL l)) (hok:OkL l) (hb:Bd l.length) (b1:Bd (ns.length+2)) (b2:Bd ord.length):isoCall (call dp) 9 [eB nl nl' ord ns root,eChs nc l]=some (.tup [zeroQ,.i .i64 1]):=by
 apply i9 _ _ _ (by simp [noRefL]) (by simp [zeroQ,noRef,noRefL])
 have u38:=v38 nl nl' ord ns root hn b1 b2
 have u14:=v14 nc l hok hb
 have hld:ldD [Ent.box [.sl 1 true [] .ro,.sl 1 true [] .ro],.box [eRows nl ord,eNds nl' ns,.i .i64 root]] 3 true (.bx 0 0)=some (eB nl nl' ord ns root):=rfl
 have hq:QAt [Ent.box [.sl 1 true [] .ro,.sl 1 true [] .ro],.box [eRows nl ord,eNds nl' ns,.i .i64 root]] 1 zeroQ:=⟨_,_,rfl,rfl⟩
 obtain ⟨S3,e3,q3,l3,k3⟩:=hq.st isQ_zero
 by_cases h:VB ord ns root
 ·have hv:¬VL l:=fun k=>hV ⟨h,k⟩
  simp only [s9,strip_eB,strip_chs,bxx_eq,cellsK_eB,OX_some,al_eq,List.length_cons,List.length_nil,Nat.zero_add,hld,u38,u14,h,hv,decide_true,decide_false,un_not,Bool.not_true,Bool.not_false,gsel_ff,pick_f,WB_true,bld0,zero_agg,e3,q3.ldc]
  rfl
 ·simp only [s9,strip_eB,strip_chs,bxx_eq,cellsK_eB,OX_some,al_eq,List.length_cons,List.length_nil,Nat.zero_add,hld,u38,h,decide_false,un_not,Bool.not_false,gsel_tf,pick_t,WB_true,bld0,zero_agg,e3,q3.ldc]
  rfl
end Go.Proofs.YtjniafcnjbbomaaGreatDoor.DE.V

namespace Go.Proofs.YtjniafcnjbbomaaGreatDoor.DE
open Go
abbrev Known:=List (Nat × List D × D)
def klook:Known→Nat→Nat→List D→Option (Nat × D)
 | [],_,_,_=>none
 | (g',a,r)::l,i,g,args=>if g' == g&&deqL a args then some (i,r) else klook l (i+1) g args
def KOk (dp:Nat→Option Fn) (σ:Nat→Store):Known→Nat→Prop
 | [],_=>True
 | (g,a,r)::l,i=>call dp g a []=some (r,σ i)∧KOk dp σ l (i+1)
theorem klook_ok {dp:Nat→Option Fn} {σ:Nat→Store}:∀ {l:Known} {i:Nat},KOk dp σ l i→∀ {g:Nat} {args:List D} {j:Nat} {r:D},klook l i g args=some (j,r)→call dp g args []=some (r,σ j)
 | [],_,_,_,_,_,_,h=>by cases h
 | (g',a,r')::l,i,hk,g,args,j,r,h=>by
  simp only [klook] at h
  split at h
  ·rename_i hc
   simp only [Bool.and_eq_true,beq_iff_eq] at hc
   injection h with h
   injection h with h1 h2
   subst h1 h2
   rw [←hc.1,←deqL_eq hc.2]
   exact hk.1
  ·exact klook_ok hk.2 h
def callM (dp:Nat→Option Fn) (kn:Known) (σ:Nat→Store):Nat→CallF
 | 0,_,_,_=>none
 | n+1,g,args,S=>match (if S.isEmpty then klook kn 0 g args else none) with
  | some (i,r)=>some (r,σ i)
  | none=>match dp g with
   | some f=>if args.length=f.np∧f.np≤f.nt then finish f (exec (callM dp kn σ n) n f.body (frame0 f args) S) else primD f args S
   | none=>none
theorem exec_lim {cf:CallF} (n:Nat):∀ (c:C) (fr:List D) (S:Store),LeO (exec cf n c fr S) (execL cf c fr S)
 | .skip,_,_=>LeO.refl _
 | .reg ops kill,fr,S=>LeO.refl _
 | .dreg ops kill,fr,S=>LeO.refl _
 | .bad,_,_=>LeO.refl _
 | .seq a b,fr,S=>by
  intro x e
  simp only [exec,execL] at *
  cases ha:exec cf n a fr S with
  | none=>simp [ha] at e
  | some p=>
   rw [exec_lim n a fr S p ha]
   rw [ha] at e
   obtain ⟨ex,fr',S'⟩:=p
   cases ex with
   | normal=>exact exec_lim n b _ _ _ e
   | exit _=>exact e
   | ret=>exact e
 | .cond q a b,fr,S=>by
  intro x e
  simp only [exec,execL] at *
  cases hq:av fr q with
  | b y=>
   rw [hq] at e
   cases y with
   | true=>exact exec_lim n a _ _ _ e
   | false=>exact exec_lim n b _ _ _ e
  | _=>simp [hq] at e
 | .blk id a,fr,S=>by
  intro x e
  simp only [exec,execL] at *
  cases ha:exec cf n a fr S with
  | none=>simp [ha] at e
  | some p=>rw [exec_lim n a fr S p ha];rw [ha] at e;exact e
 | .loop kl a,fr,S=>by
  intro x e
  simp only [exec,execL] at *
  exact (lim_iff (fun n m hm=>iter_mono (fun _ _=>LeO.refl _) n m hm fr S) x).2 ⟨n,iter_mono (fun fr S=>exec_lim n a (fkill fr kl) S) n n (Nat.le_refl _) _ _ _ e⟩
 | .exit _,_,_=>LeO.refl _
 | .ret,_,_=>LeO.refl _
theorem callM_call {dp:Nat→Option Fn} {kn:Known} {σ:Nat→Store} (hk:KOk dp σ kn 0):∀ n,LeC (callM dp kn σ n) (call dp)
 | 0=>fun _ _ _ _ e=>by cases e
 | n+1=>by
  intro g a S r e
  simp only [callM] at e
  split at e
  ·rename_i i r0 hl
   injection e with e
   subst e
   split at hl
   ·rename_i hS
    have:S=[]:=by simpa using hS
    subst this
    exact klook_ok hk hl
   ·cases hl
  ·rw [call_eq]
   cases hg:dp g with
   | none=>simp [hg] at e
   | some f=>
    simp only [hg] at e ⊢
    split at e
    ·rename_i hn
     rw [if_pos hn]
     refine finish_mono f ?_ _ e
     intro x hx
     have h1:=exec_mono (callM_call hk n) (Nat.le_refl n) f.body (frame0 f a) S x hx
     exact exec_lim n f.body _ _ x h1
    ·rename_i hn
     rw [if_neg hn]
     exact e
def ans (o:Option (D × Store)):Option D:=match o with
 | some (r,_)=>some r
 | none=>none
theorem known {dp:Nat→Option Fn} {kn:Known} {g:Nat} {args:List D} {r:D} (n:Nat) (hk:∃ σ,KOk dp σ kn 0) (h:∀ σ,ans (callM dp kn σ n g args [])=some r):∃ S,call dp g args []=some (r,S):=by
 obtain ⟨σ,hk⟩:=hk
 have:=h σ
 unfold ans at this
 split at this
 ·rename_i r0 S0 e
  injection this with this
  subst this
  exact ⟨S0,callM_call hk n _ _ _ _ e⟩
 ·cases this
theorem known_nil {dp:Nat→Option Fn}:∃ σ,KOk dp σ [] 0:=⟨fun _=>[],trivial⟩
theorem KOk_shift {dp:Nat→Option Fn} {σ:Nat→Store}:∀ {l:Known} {i:Nat} (S:Store),KOk dp σ l i→KOk dp (fun n=>match n with | 0=>S | n+1=>σ n) l (i+1)
 | [],_,_,_=>trivial
 | (_,_,_)::l,i,S,h=>⟨h.1,KOk_shift (l:=l) (i:=i+1) S h.2⟩
theorem known_cons {dp:Nat→Option Fn} {kn:Known} {g:Nat} {args:List D} {r:D} (h:∃ S,call dp g args []=some (r,S)) (hk:∃ σ,KOk dp σ kn 0):∃ σ,KOk dp σ ((g,args,r)::kn) 0:=by
 obtain ⟨S,h⟩:=h
 obtain ⟨σ,hk⟩:=hk
 exact ⟨fun n=>match n with | 0=>S | n+1=>σ n,h,KOk_shift S hk⟩
end Go.Proofs.YtjniafcnjbbomaaGreatDoor.DE
