/-
  SEVERAL TEXTS IN ONE (joined by tools/assemble.py of this repository): Pc, Pd, Pe, Pf, Pg, Ph, Pi, Pj, Vb, Vc, Vd, Ve, Sb, Tb, Vh, Vi, Sc, Vj, Vk, Sd, Tc, Vm, Vn, Te, Sg, Wa, Aj, Ak, Al, Bg.
-/
import Derived.Test.YtjlmeikcfdanmaaGreatDoorQu4
import Derived.KernelRfl
set_option linter.unusedVariables false
set_option linter.unusedSimpArgs false
namespace Go.Proofs.YtjlmeikcfdanmaaGreatDoor.DE.V
open Go
theorem jnE {α:Type} (K:α) (X:α→Prop):jn K X=X K:=rfl
theorem v216 {S:Store} {id n:Nat} {d:Array Row} (lo hi first:Nat) (hid:id<S.length) (hn:d.size=n) (hb:first+hi≤n) (hlo:lo≤n) (h9:n≤1000000) :
  call dp 216 [arN id n,iN lo,iN hi,iN first,cmpF] (put S id d)=some (.tup [],put S id (Go.Sort.siftDown ltR hi first lo d)):=by
 obtain ⟨r,S',e,rfl,rfl⟩:=f216 (arN id n) (iN lo) (iN hi) (iN first) cmpF (put S id d) (fun r S'=>r = .tup []∧S'=put S id (Go.Sort.siftDown ltR hi first lo d)) (by
  simp (disch:=omega) only [s216]
  let J:Nat→List D→Store→Prop:=fun q fr S'=>∃ root d' x11 x18 x58,q=hi-root∧root≤n∧d'.size=n∧Go.Sort.siftDown ltR hi first root d'=Go.Sort.siftDown ltR hi first lo d∧S'=put S id d' ∧
   fr=mkf 82 [(0,arN id n),(2,iN hi),(3,iN first),(4,cmpF),(10,iN root),(11,x11),(18,x18),(58,x58)]
  refine W_loop J ?_ (hi-lo) _ _ ⟨lo,d,_,_,_,rfl,hlo,hn,rfl,rfl,rfl⟩
  rintro q fr S' ⟨root,d',x11,x18,x58,rfl,hrn,hn',hio,rfl,rfl⟩
  rw [←wp_W,e216_0]
  have m1:binD .mul .num (iN 2) (iN root)=some (iN (2 * root)):=mul_N (by omega)
  have m2:binD .add .num (iN (2 * root)) (iN 1)=some (iN (2 * root+1)):=add_N (by omega)
  have m3:binD .add .num (iN (2 * root+1)) (iN 1)=some (iN (2 * root+2)):=add_N (by omega)
  rw [Go.Sort.siftDown] at hio
  by_cases h0:2 * root+1 ≥ hi
  ·rw [dif_pos h0] at hio
   have h0':hi≤2 * root+1:=h0
   simp [-Int.natCast_add,s216_0,l0,l1,l2,m1,m2,geq_N,h0',FinK_nil,hio]
  rw [dif_neg h0] at hio
  have h0':¬hi≤2 * root+1:=h0
  have r1:binD .add .num (iN first) (iN root)=some (iN (first+root)):=add_N (by omega)
  have r2:binD .add .num (iN first) (iN (2 * root+1))=some (iN (first+(2 * root+1))):=add_N (by omega)
  have r3:binD .add .num (iN first) (iN (2 * root+2))=some (iN (first+(2 * root+2))):=add_N (by omega)
  have r4:binD .add .num (iN (first+(2 * root+1))) (iN 1)=some (iN (first+(2 * root+2))):=add_N (by omega)
  have i0:=ia_N (id:=id) (n:=n) (k:=first+root) (by omega)
  have d0:=ld_N (d:=d') (k:=first+root) hid (by omega)
  have i1:=ia_N (id:=id) (n:=n) (k:=first+(2 * root+1)) (by omega)
  have d1:=ld_N (d:=d') (k:=first+(2 * root+1)) hid (by omega)
  have c1:=v123 d'[first+root]! d'[first+(2 * root+1)]!
  have s1:=st_N (d:=d') (k:=first+root) d'[first+(2 * root+1)]! hid (by omega)
  have s2:=st_N (d:=d'.setIfInBounds (first+root) d'[first+(2 * root+1)]!) (k:=first+(2 * root+1)) d'[first+root]! hid (by simp;omega)
  by_cases h1:2 * root+2<hi
  ·have i2:=ia_N (id:=id) (n:=n) (k:=first+(2 * root+2)) (by omega)
   have d2:=ld_N (d:=d') (k:=first+(2 * root+2)) hid (by omega)
   have c2:=v123 d'[first+root]! d'[first+(2 * root+2)]!
   have c3:=v123 d'[first+(2 * root+1)]! d'[first+(2 * root+2)]!
   have s3:=st_N (d:=d') (k:=first+root) d'[first+(2 * root+2)]! hid (by omega)
   have s4:=st_N (d:=d'.setIfInBounds (first+root) d'[first+(2 * root+2)]!) (k:=first+(2 * root+2)) d'[first+root]! hid (by simp;omega)
   cases h2:ltR d'[first+(2 * root+1)]! d'[first+(2 * root+2)]! with
   | true=>
    rw [if_pos (by simp [h1,Nat.add_assoc,h2])] at hio
    cases h3:ltR d'[first+root]! d'[first+(2 * root+2)]! with
    | true=>
     rw [if_neg (by simp [h3]),dif_pos h1] at hio
     simp only [s216_0,l0,l1,l2,m1,m2,m3,r1,r2,r3,r4,geq_N,lss_N,h0',h1,decide_true,decide_false,OX_some,WB_b,Bool.false_eq_true,if_false,if_true,gsel_tt,i0,i1,i2,d0,d1,d2,cmpF,fnD_fn,List.append_nil,c1,c2,c3,lss_c,h2,h3,pick_t,jnE,un_not,Bool.not_true,s3,s4,Qseq_normal]
     exact ⟨hi-(2 * root+2),by omega,2 * root+2,Go.Sort.swp d' (first+root) (first+(2 * root+2)),_,_,_,rfl,by omega,(swp_size _ _ _).trans hn',hio,rfl,rfl⟩
    | false=>
     rw [if_pos (by simp [h3])] at hio
     simp only [s216_0,l0,l1,l2,m1,m2,m3,r1,r2,r3,r4,geq_N,lss_N,h0',h1,decide_true,decide_false,OX_some,WB_b,Bool.false_eq_true,if_false,if_true,gsel_tt,i0,i1,i2,d0,d1,d2,cmpF,fnD_fn,List.append_nil,c1,c2,c3,lss_c,h2,h3,pick_t,jnE,un_not,Bool.not_false,Qseq_ret,Qblk_ret,FinK_nil]
     exact ⟨trivial,by rw [hio]⟩
   | false=>
    rw [if_neg (by simp [Nat.add_assoc,h2])] at hio
    cases h3:ltR d'[first+root]! d'[first+(2 * root+1)]! with
    | true=>
     rw [if_neg (by simp [h3])] at hio
     simp only [s216_0,l0,l1,l2,m1,m2,m3,r1,r2,r3,r4,geq_N,lss_N,h0',h1,decide_true,decide_false,OX_some,WB_b,Bool.false_eq_true,if_false,if_true,gsel_tt,i0,i1,i2,d0,d1,d2,cmpF,fnD_fn,List.append_nil,c1,c2,c3,lss_c,h2,h3,pick_t,jnE,un_not,Bool.not_true,s1,s2,Qseq_normal]
     exact ⟨hi-(2 * root+1),by omega,2 * root+1,Go.Sort.swp d' (first+root) (first+(2 * root+1)),_,_,_,rfl,by omega,(swp_size _ _ _).trans hn',hio,rfl,rfl⟩
    | false=>
     rw [if_pos (by simp [h3])] at hio
     simp only [s216_0,l0,l1,l2,m1,m2,m3,r1,r2,r3,r4,geq_N,lss_N,h0',h1,decide_true,decide_false,OX_some,WB_b,Bool.false_eq_true,if_false,if_true,gsel_tt,i0,i1,i2,d0,d1,d2,cmpF,fnD_fn,List.append_nil,c1,c2,c3,lss_c,h2,h3,pick_t,jnE,un_not,Bool.not_false,Qseq_ret,Qblk_ret,FinK_nil]
     exact ⟨trivial,by rw [hio]⟩
  ·rw [if_neg (by simp;omega)] at hio
   cases h3:ltR d'[first+root]! d'[first+(2 * root+1)]! with
   | true=>
    rw [if_neg (by simp [h3])] at hio
    simp only [s216_0,l0,l1,l2,m1,m2,m3,r1,r2,r3,r4,geq_N,lss_N,h0',h1,decide_true,decide_false,OX_some,WB_b,Bool.false_eq_true,if_false,if_true,gsel_ft,i0,i1,d0,d1,cmpF,fnD_fn,List.append_nil,c1,lss_c,h3,pick_f,jnE,un_not,Bool.not_true,s1,s2,Qseq_normal]
    exact ⟨hi-(2 * root+1),by omega,2 * root+1,Go.Sort.swp d' (first+root) (first+(2 * root+1)),_,_,_,rfl,by omega,(swp_size _ _ _).trans hn',hio,rfl,rfl⟩
   | false=>
    rw [if_pos (by simp [h3])] at hio
    simp only [s216_0,l0,l1,l2,m1,m2,m3,r1,r2,r3,r4,geq_N,lss_N,h0',h1,decide_true,decide_false,OX_some,WB_b,Bool.false_eq_true,if_false,if_true,gsel_ft,i0,i1,d0,d1,cmpF,fnD_fn,List.append_nil,c1,lss_c,h3,pick_f,jnE,un_not,Bool.not_false,Qseq_ret,Qblk_ret,FinK_nil]
    exact ⟨trivial,by rw [hio]⟩)
 exact e
def iP (k:Nat):D:=.i .i64 ((k:Int)-1)
theorem iP_succ (k:Nat):iP (k+1)=iN k:=by simp only [iP,iN];congr 1;omega
theorem sub_P (k:Nat) (h:k<4000000000):binD .sub .num (iN k) (iN 1)=some (iP k):=by
 simp only [iN,iP,bin_sub];rw [wrap64 ⟨by omega,by omega⟩];rfl
theorem geq_P0:binD .geq .num (iP 0) (iN 0)=some (.b false):=rfl
theorem siftDown_size (hi first:Nat):∀ (root:Nat) (d:Array Row),(Go.Sort.siftDown ltR hi first root d).size=d.size:=by
 intro root d
 fun_induction Go.Sort.siftDown ltR hi first root d <;> simp_all [swp_size]
theorem v199 {S:Store} {id n:Nat} {d:Array Row} (a b:Nat) (hid:id<S.length) (hn:d.size=n) (hab:a<b) (hb:b≤n) (h9:n≤1000000) :
  call dp 199 [arN id n,iN a,iN b,cmpF] (put S id d)=some (.tup [],put S id (Go.Sort.heapSort ltR d a b)):=by
 obtain ⟨r,S',e,rfl,rfl⟩:=f199 (arN id n) (iN a) (iN b) cmpF (put S id d) (fun r S'=>r = .tup []∧S'=put S id (Go.Sort.heapSort ltR d a b)) (by
  have m1:binD .sub .num (iN b) (iN a)=some (iN (b-a)):=sub_N (by omega) (by omega)
  have m2:binD .sub .num (iN (b-a)) (iN 1)=some (iN (b-a-1)):=sub_N (by omega) (by omega)
  have m3:binD .quo .num (iN (b-a-1)) (iN 2)=some (iN ((b-a-1) / 2)):=quo_N (by omega) (by omega)
  simp only [s199,l0,l1,l2,m1,m2,m3,OX_some]
  let J:Nat→List D→Store→Prop:=fun q fr S'=>∃ d' x12 x21 x33,q≤b-a∧d'.size=n∧Go.Sort.heapPop ltR a (b-a) (Go.Sort.heapBuild ltR (b-a) a q d')=Go.Sort.heapSort ltR d a b∧S'=put S id d' ∧
   fr=mkf 60 [(0,arN id n),(3,cmpF),(8,iN a),(9,iN 0),(10,iN (b-a)),(11,iP q),(12,x12),(21,x21),(33,x33)]
  refine W_loop J ?_ ((b-a-1) / 2+1) _ _ ⟨d,_,_,_,by omega,hn,rfl,rfl,by rw [iP_succ]⟩
  rintro q fr S' ⟨d',x12,x21,x33,hq,hn',hio,rfl,rfl⟩
  rw [←wp_W,e199_1]
  cases q with
  | succ k=>
   have m4:=v216 (d:=d') k (b-a) a hid hn' (by omega) (by omega) h9
   simp only [s199_1,l0,l1,iP_succ,geq_N,Nat.zero_le,decide_true,OX_some,WB_b,if_true,m4,sub_P k (by omega),Qseq_normal]
   exact ⟨k,by omega,_,_,_,_,by omega,(siftDown_size _ _ _ _).trans hn',hio,rfl,rfl⟩
  | zero=>
   simp only [s199_1,l0,l1,geq_P0,OX_some,WB_b,Bool.false_eq_true,if_false,Qseq_exit,Qblk_same,QS_normal,e199_r0,s199_r0,m2]
   rw [Go.Sort.heapBuild] at hio
   let J2:Nat→List D→Store→Prop:=fun q fr S'=>∃ d' x10 x11 x21 x33,q≤b-a∧d'.size=n∧Go.Sort.heapPop ltR a q d'=Go.Sort.heapSort ltR d a b∧S'=put S id d' ∧
    fr=mkf 60 [(0,arN id n),(3,cmpF),(8,iN a),(9,iN 0),(10,x10),(11,x11),(12,iP q),(21,x21),(33,x33)]
   have eP:iN (b-a-1)=iP (b-a):=by
    have:b-a=(b-a-1)+1:=by omega
    rw [this,iP_succ];rfl
   rw [eP]
   refine W_loop J2 ?_ (b-a) _ _ ⟨d',_,_,_,_,by omega,hn',hio,rfl,rfl⟩
   ·rintro q fr S' ⟨d',x10,x11,x21,x33,hq,hn',hio,rfl,rfl⟩
    rw [←wp_W,e199_0]
    cases q with
    | succ k=>
     have r1:binD .add .num (iN a) (iN k)=some (iN (a+k)):=add_N (by omega)
     have i0:=ia_N (id:=id) (n:=n) (k:=a) (by omega)
     have i1:=ia_N (id:=id) (n:=n) (k:=a+k) (by omega)
     have d0:=ld_N (d:=d') (k:=a) hid (by omega)
     have d1:=ld_N (d:=d') (k:=a+k) hid (by omega)
     have s1:=st_N (d:=d') (k:=a) d'[a+k]! hid (by omega)
     have s2:=st_N (d:=d'.setIfInBounds a d'[a+k]!) (k:=a+k) d'[a]! hid (by simp;omega)
     have m4:call dp 216 [arN id n,iN 0,iN k,iN a,cmpF] (put S id ((d'.setIfInBounds a d'[a+k]!).setIfInBounds (a+k) d'[a]!))=_:=v216 (d:=Go.Sort.swp d' a (a+k)) 0 k a hid ((swp_size _ _ _).trans hn') (by omega) (by omega) h9
     simp only [s199_0,l0,l1,iP_succ,geq_N,Nat.zero_le,decide_true,OX_some,WB_b,if_true,r1,i0,i1,d0,d1,s1,s2,m4,sub_P k (by omega),Qseq_normal]
     exact ⟨k,by omega,_,_,_,_,_,by omega,(siftDown_size _ _ _ _).trans ((swp_size _ _ _).trans hn'),hio,rfl,rfl⟩
    | zero=>
     rw [Go.Sort.heapPop] at hio
     simp only [s199_0,l0,l1,geq_P0,OX_some,WB_b,Bool.false_eq_true,if_false,Qseq_exit,Qblk_same,FinK_normal,FinK_nil]
     exact ⟨trivial,by rw [hio]⟩)
 exact e
theorem v202 {S:Store} {id n:Nat} {d:Array Row} (a b:Nat) (hid:id<S.length) (hn:d.size=n) (hab:a<b) (hb:b≤n) (h9:n≤1000000) :
  call dp 202 [arN id n,iN a,iN b,cmpF] (put S id d)=some (.tup [],put S id (Go.Sort.reverseRange d a b)):=by
 obtain ⟨r,S',e,rfl,rfl⟩:=f202 (arN id n) (iN a) (iN b) cmpF (put S id d) (fun r S'=>r = .tup []∧S'=put S id (Go.Sort.reverseRange d a b)) (by
  have m1:binD .sub .num (iN b) (iN 1)=some (iN (b-1)):=sub_N (by omega) (by omega)
  simp only [s202,l1,m1,OX_some]
  let J:Nat→List D→Store→Prop:=fun q fr S'=>∃ i j d' x15,q=j-i∧i<n∧j<n∧d'.size=n∧Go.Sort.reverseLoop i j d'=Go.Sort.reverseRange d a b∧S'=put S id d' ∧
   fr=mkf 34 [(0,arN id n),(8,iN i),(9,iN j),(15,x15)]
  refine W_loop J ?_ (b-1-a) _ _ ⟨a,b-1,d,_,rfl,by omega,by omega,hn,rfl,rfl,rfl⟩
  rintro q fr S' ⟨i,j,d',x15,rfl,hi,hj,hn',hio,rfl,rfl⟩
  rw [←wp_W,e202_0]
  rw [Go.Sort.reverseLoop] at hio
  by_cases h:i<j
  ·rw [if_pos h] at hio
   have m2:binD .add .num (iN i) (iN 1)=some (iN (i+1)):=add_N (by omega)
   have m3:binD .sub .num (iN j) (iN 1)=some (iN (j-1)):=sub_N (by omega) (by omega)
   have i0:=ia_N (id:=id) hi
   have i1:=ia_N (id:=id) hj
   have d0:=ld_N (d:=d') (k:=i) hid (by omega)
   have d1:=ld_N (d:=d') (k:=j) hid (by omega)
   have s1:=st_N (d:=d') (k:=i) d'[j]! hid (by omega)
   have s2:=st_N (d:=d'.setIfInBounds i d'[j]!) (k:=j) d'[i]! hid (by simp;omega)
   simp only [s202_0,l1,lss_N,h,decide_true,OX_some,WB_b,if_true,m2,m3,i0,i1,d0,d1,s1,s2,Qseq_normal]
   exact ⟨j-1-(i+1),by omega,i+1,j-1,_,_,rfl,by omega,by omega,(swp_size _ _ _).trans hn',hio,rfl,rfl⟩
  ·rw [if_neg h] at hio
   simp only [s202_0,l1,lss_N,h,decide_false,OX_some,WB_b,Bool.false_eq_true,if_false,Qseq_exit,Qblk_same,FinK_normal,FinK_nil]
   exact ⟨trivial,by rw [hio]⟩)
 exact e
end Go.Proofs.YtjlmeikcfdanmaaGreatDoor.DE.V

namespace Go.Proofs.YtjlmeikcfdanmaaGreatDoor.DE.V
open Go
def swB (k:Nat):Ent:=.box [iN k]
theorem sget_swB {S:Store} {id:Nat} (d:Array Row) (k:Nat) (h:id<S.length):sget (put (swB k::S) id d) S.length=some (swB k):=by
 rw [sget_put_ne _ (by omega)];simp
theorem ld_swB {S:Store} {id:Nat} (d:Array Row) (k:Nat) (h:id<S.length):ldD (put (swB k::S) id d) 1 false (.bx S.length 0)=some (iN k):=by
 simp only [ldD_bx,sget_swB d k h];rfl
theorem st_swB {S:Store} {id:Nat} (d:Array Row) (k m:Nat) (h:id<S.length):stD (put (swB k::S) id d) 1 false (.bx S.length 0) (iN m)=some (put (swB m::S) id d):=by
 simp only [stD_bx,sget_swB d k h]
 have:stE (some (swB k)) (put (swB k::S) id d) S.length 1 false 0 (iN m)=some (sset (put (swB k::S) id d) S.length (swB m)):=rfl
 rw [this,put_push _ _ h,put_push _ _ h]
 simp only [sset,put_len,if_true]
theorem v224 {S:Store} {id n k:Nat} {d:Array Row} (a b:Nat) (hid:id<S.length) (hn:d.size=n) (ha:a<n) (hb:b<n) (hk:k≤1000) :
  ∃ i j k',call dp 224 [arN id n,iN a,iN b,.bx S.length 0,cmpF] (put (swB k::S) id d)=some (.tup [iN i,iN j],put (swB k'::S) id d)∧k'≤k+1∧((i=a∧j=b)∨(i=b∧j=a)):=by
 have hid':id<(swB k::S).length:=by simp;omega
 obtain ⟨r,S',e,i,j,k',rfl,rfl,h1,h2⟩:=f224 (arN id n) (iN a) (iN b) (.bx S.length 0) cmpF (put (swB k::S) id d) (fun r S'=>∃ i j k',r = .tup [iN i,iN j]∧S'=put (swB k'::S) id d∧k'≤k+1∧((i=a∧j=b)∨(i=b∧j=a))) (by
  have i0:=ia_N (id:=id) ha
  have i1:=ia_N (id:=id) hb
  have d0:=ld_N (d:=d) (k:=a) hid' (by omega)
  have d1:=ld_N (d:=d) (k:=b) hid' (by omega)
  have c1:=v123 d[b]! d[a]!
  have m1:binD .add .num (iN k) (iN 1)=some (iN (k+1)):=add_N (by omega)
  have hnil:nilckD (.bx S.length 0)=some (.bx S.length 0):=rfl
  cases h:ltR d[b]! d[a]! with
  | true=>
   simp only [s224,l0,l1,i0,i1,d0,d1,OX_some,cmpF,fnD_fn,List.append_nil,c1,lss_c,h,WB_b,if_true,hnil,ld_swB d k hid,m1,st_swB d k _ hid]
   exact ⟨b,a,k+1,rfl,rfl,by omega,.inr ⟨rfl,rfl⟩⟩
  | false=>
   simp only [s224,l0,i0,i1,d0,d1,OX_some,cmpF,fnD_fn,List.append_nil,c1,lss_c,h,WB_b,Bool.false_eq_true,if_false]
   exact ⟨a,b,k,rfl,rfl,by omega,.inl ⟨rfl,rfl⟩⟩)
 exact ⟨i,j,k',e,h1,h2⟩
theorem v220 {S:Store} {id n k:Nat} {d:Array Row} (a b c:Nat) (hid:id<S.length) (hn:d.size=n) (ha:a<n) (hb:b<n) (hc:c<n) (hk:k≤900) :
  ∃ i k',call dp 220 [arN id n,iN a,iN b,iN c,.bx S.length 0,cmpF] (put (swB k::S) id d)=some (iN i,put (swB k'::S) id d)∧k'≤k+3∧(i=a∨i=b∨i=c):=by
 obtain ⟨r,S',e,i,k',rfl,rfl,h1,h2⟩:=f220 (arN id n) (iN a) (iN b) (iN c) (.bx S.length 0) cmpF (put (swB k::S) id d) (fun r S'=>∃ i k',r=iN i∧S'=put (swB k'::S) id d∧k'≤k+3∧(i=a∨i=b∨i=c)) (by
  obtain ⟨i1,j1,k1,e1,q1,o1⟩:=v224 (k:=k) a b hid hn ha hb (by omega)
  obtain ⟨i2,j2,k2,e2,q2,o2⟩:=v224 (k:=k1) j1 c hid hn (by omega) hc (by omega)
  obtain ⟨i3,j3,k3,e3,q3,o3⟩:=v224 (k:=k2) i1 i2 hid hn (by omega) (by omega) (by omega)
  have x0:∀ i j:Nat,extD (.tup [iN i,iN j]) 0=some (iN i):=fun _ _=>rfl
  have x1:∀ i j:Nat,extD (.tup [iN i,iN j]) 1=some (iN j):=fun _ _=>rfl
  simp only [s220,e1,e2,e3,OX_some,x0,x1]
  exact ⟨j3,k3,rfl,rfl,by omega,by omega⟩)
 exact ⟨i,k',e,h1,h2⟩
theorem v201 {S:Store} {id n:Nat} {d:Array Row} (a b:Nat) (hid:id<S.length) (hn:d.size=n) (hab:a<b) (hb:b≤n) (h9:n≤49) :
  ∃ i h k',call dp 201 [arN id n,iN a,iN b,cmpF] (put S id d)=some (.tup [iN i,iN h],put (swB k'::S) id d)∧a≤i∧i<b:=by
 obtain ⟨r,S',e,i,h,k',rfl,rfl,h1,h2⟩:=f201 (arN id n) (iN a) (iN b) cmpF (put S id d) (fun r S'=>∃ i h k',r = .tup [iN i,iN h]∧S'=put (swB k'::S) id d∧a≤i∧i<b) (by
  have m1:binD .sub .num (iN b) (iN a)=some (iN (b-a)):=sub_N (by omega) (by omega)
  have m2:binD .quo .num (iN (b-a)) (iN 4)=some (iN ((b-a) / 4)):=quo_N (by omega) (by omega)
  have m3:binD .mul .num (iN ((b-a) / 4)) (iN 1)=some (iN ((b-a) / 4 * 1)):=mul_N (by omega)
  have m4:binD .mul .num (iN ((b-a) / 4)) (iN 2)=some (iN ((b-a) / 4 * 2)):=mul_N (by omega)
  have m5:binD .mul .num (iN ((b-a) / 4)) (iN 3)=some (iN ((b-a) / 4 * 3)):=mul_N (by omega)
  have m6:binD .add .num (iN a) (iN ((b-a) / 4 * 1))=some (iN (a+(b-a) / 4 * 1)):=add_N (by omega)
  have m7:binD .add .num (iN a) (iN ((b-a) / 4 * 2))=some (iN (a+(b-a) / 4 * 2)):=add_N (by omega)
  have m8:binD .add .num (iN a) (iN ((b-a) / 4 * 3))=some (iN (a+(b-a) / 4 * 3)):=add_N (by omega)
  have h50:¬50≤b-a:=by omega
  have hal:Ent.box [iN 0]::put S id d=put (swB 0::S) id d:=(put_push d _ hid).symm
  have fin:∀ i k',a≤i→i<b→OX (ldD (put (swB k'::S) id d) 1 false (.bx S.length 0)) fun x24=>OX (binD .eql .num x24 (iN 0)) fun x25=>
    WB x25 (∃ i_1 h k'_1,D.tup [iN i,iN 1]=D.tup [iN i_1,iN h]∧put (swB k'::S) id d=put (swB k'_1::S) id d∧a≤i_1∧i_1<b)
    (OX (binD .eql .num x24 (iN 12)) fun x26=>WB x26 (∃ i_1 h k'_1,D.tup [iN i,iN 2]=D.tup [iN i_1,iN h]∧put (swB k'::S) id d=put (swB k'_1::S) id d∧a≤i_1∧i_1<b)
     (∃ i_1 h k'_1,D.tup [iN i,iN 0]=D.tup [iN i_1,iN h]∧put (swB k'::S) id d=put (swB k'_1::S) id d∧a≤i_1∧i_1<b)):=by
   intro i k' h1 h2
   simp only [ld_swB d k' hid,OX_some,eql_N,WB_b]
   split
   ·exact ⟨i,1,k',rfl,rfl,h1,h2⟩
   ·split
    ·exact ⟨i,2,k',rfl,rfl,h1,h2⟩
    ·exact ⟨i,0,k',rfl,rfl,h1,h2⟩
  by_cases h8:8≤b-a
  ·obtain ⟨i,k',e,_,h2⟩:=v220 (S:=S) (k:=0) (d:=d) (a+(b-a) / 4 * 1) (a+(b-a) / 4 * 2) (a+(b-a) / 4 * 3) hid hn (by omega) (by omega) (by omega) (by omega)
   simp only [s201,l0,l1,l2,l3,l4,l8,l12,l50,m1,m2,m3,m4,m5,m6,m7,m8,OX_some,al_eq,put_len,hal,geq_N,h8,h50,decide_true,decide_false,jnE,WB_b,if_true,Bool.false_eq_true,if_false,e]
   exact fin i k' (by omega) (by omega)
  ·simp only [s201,l0,l1,l2,l3,l4,l8,l12,l50,m1,m2,m3,m4,m5,m6,m7,m8,OX_some,al_eq,put_len,hal,geq_N,h8,decide_false,jnE,WB_b,Bool.false_eq_true,if_false]
   exact fin (a+(b-a) / 4 * 2) 0 (by omega) (by omega))
 exact ⟨i,h,k',e,h1,h2⟩
theorem pis {d:Array Row} {a b:Nat} (h:b-a<50):Go.Sort.partialInsertionSort ltR d a b=(d,decide (Go.Sort.scanSorted ltR d b (a+1)=b)):=by
 rw [Go.Sort.partialInsertionSort,Go.Sort.partialIns]
 by_cases e:Go.Sort.scanSorted ltR d b (a+1)=b
 ·simp [e]
 ·simp [e,h]
theorem v203 {S:Store} {id n:Nat} {d:Array Row} (a b:Nat) (hid:id<S.length) (hn:d.size=n) (hab:a<b) (hb:b≤n) (h9:n≤49) :
  call dp 203 [arN id n,iN a,iN b,cmpF] (put S id d)=some (.b (Go.Sort.partialInsertionSort ltR d a b).2,put S id d):=by
 rw [pis (by omega)]
 obtain ⟨r,S',e,rfl,rfl⟩:=f203 (arN id n) (iN a) (iN b) cmpF (put S id d) (fun r S'=>r = .b (decide (Go.Sort.scanSorted ltR d b (a+1)=b))∧S'=put S id d) (by
  have m1:binD .add .num (iN a) (iN 1)=some (iN (a+1)):=add_N (by omega)
  have m2:binD .sub .num (iN b) (iN a)=some (iN (b-a)):=sub_N (by omega) (by omega)
  have h50:b-a<50:=by omega
  have l5:D.i .i64 5=iN 5:=rfl
  simp only [s203,l0,l1,m1,OX_some]
  apply W_step
  rw [←wp_W,e203_3]
  simp only [s203_3,l5,lss_N,show (0<5)=True by simp,decide_true,OX_some,WB_b,if_true]
  let J:Nat→List D→Store→Prop:=fun q fr S'=>∃ i x16 x36,q=b-i∧a<i∧i≤b∧Go.Sort.scanSorted ltR d b i=Go.Sort.scanSorted ltR d b (a+1)∧S'=put S id d ∧
   fr=mkf 141 [(0,arN id n),(1,iN a),(2,iN b),(3,cmpF),(8,.top),(9,iN i),(10,iN 0),(11,.top),(12,.top),(16,x16),(36,x36),(65,.top),(69,.top),(84,.top),(104,.top),(109,.top),(124,.top)]
  refine W_loop J ?_ (b-(a+1)) _ _ ⟨a+1,_,_,rfl,by omega,by omega,rfl,rfl,rfl⟩
  rintro q fr S' ⟨i,x16,x36,rfl,hai,hib,hio,rfl,rfl⟩
  rw [←wp_W,e203_2]
  rw [Go.Sort.scanSorted] at hio
  have out:∀ c:Bool,(c=true→i=b)→∀ x36,i=Go.Sort.scanSorted ltR d b (a+1)→s203_r1 (call dp) (arN id n) (iN a) (iN b) cmpF .top (iN i) (iN 0) .top .top .top x36 .top .top .top .top .top .top (put S id d)
    (Qblk 1 (QS (call dp) c203_r2 (Qseq (fun fr' S'=>W (call dp) (.loop [] c203_3) fr' S' (Qblk 0 (QS (call dp) c203_r3 (FinK [.t 8] fun r S'=>r=D.b (decide (Go.Sort.scanSorted ltR d b (a+1)=b))∧S'=put S id d)))) (Qblk 0 (QS (call dp) c203_r3 (FinK [.t 8] fun r S'=>r=D.b (decide (Go.Sort.scanSorted ltR d b (a+1)=b))∧S'=put S id d)))))):=by
   intro c _ x36 hi
   rw [←hi]
   by_cases he:i=b
   ·simp [s203_r1,eql_N,he]
   ·simp [s203_r1,l50,eql_N,lss_N,he,m2,h50]
  by_cases hlt:i<b
  ·have i0:=ia_N (id:=id) (n:=n) (k:=i) (by omega)
   have i1:=ia_N (id:=id) (n:=n) (k:=i-1) (by omega)
   have d0:=ld_N (d:=d) (k:=i) hid (by omega)
   have d1:=ld_N (d:=d) (k:=i-1) hid (by omega)
   have c1:=v123 d[i]! d[i-1]!
   have m3:binD .sub .num (iN i) (iN 1)=some (iN (i-1)):=sub_N (by omega) (by omega)
   have m4:binD .add .num (iN i) (iN 1)=some (iN (i+1)):=add_N (by omega)
   cases hc:ltR d[i]! d[i-1]! with
   | true=>
    rw [if_neg (by simp [hc])] at hio
    simp only [s203_2,l0,l1,lss_N,hlt,decide_true,OX_some,gsel_tt,i0,i1,d0,d1,m3,cmpF,fnD_fn,List.append_nil,c1,lss_c,hc,un_not,Bool.not_true,pick_t,WB_b,Bool.false_eq_true,if_false,Qseq_exit,Qblk_same,QS_normal,e203_r1]
    exact out false (by simp) _ hio
   | false=>
    rw [if_pos (by simp [hc,hlt])] at hio
    simp only [s203_2,l0,l1,lss_N,hlt,decide_true,OX_some,gsel_tt,i0,i1,d0,d1,m3,m4,cmpF,fnD_fn,List.append_nil,c1,lss_c,hc,un_not,Bool.not_false,pick_t,WB_b,if_true,Qseq_normal]
    exact ⟨b-(i+1),by omega,i+1,_,_,rfl,by omega,by omega,hio,rfl,rfl⟩
  ·rw [if_neg (by simp [hlt])] at hio
   simp only [s203_2,lss_N,hlt,decide_false,OX_some,gsel_ft,gsel_skip,pick_f,WB_b,Bool.false_eq_true,if_false,Qseq_exit,Qblk_same,QS_normal,e203_r1]
   exact out false (by simp) _ hio)
 exact e
end Go.Proofs.YtjlmeikcfdanmaaGreatDoor.DE.V

namespace Go.Proofs.YtjlmeikcfdanmaaGreatDoor.DE.V
open Go
theorem sc204_1 {S:Store} {id n:Nat} {d:Array Row} (a i j:Nat) (x10 x47 x65 x70:D) {Q:Ex→List D→Store→Prop} (hid:id<S.length) (hn:d.size=n) (ha:a<n) (hj:j<n) (h9:n≤1000000)
  (hQ:∀ x47,Q .normal (mkf 90 [(0,arN id n),(1,iN a),(4,cmpF),(10,x10),(11,iN (Go.Sort.scanUp (fun x=>!ltR d[a]! x) d j i)),(12,iN j),(47,x47),(65,x65),(70,x70)]) (put S id d)) :
  W (call dp) (.loop [] c204_1) (mkf 90 [(0,arN id n),(1,iN a),(4,cmpF),(10,x10),(11,iN i),(12,iN j),(47,x47),(65,x65),(70,x70)]) (put S id d) (Qblk 2 Q):=by
 let J:Nat→List D→Store→Prop:=fun q fr S'=>∃ i' x47,q=j+1-i'∧Go.Sort.scanUp (fun x=>!ltR d[a]! x) d j i'=Go.Sort.scanUp (fun x=>!ltR d[a]! x) d j i∧S'=put S id d∧fr=mkf 90 [(0,arN id n),(1,iN a),(4,cmpF),(10,x10),(11,iN i'),(12,iN j),(47,x47),(65,x65),(70,x70)]
 refine W_loop J ?_ (j+1-i) _ _ ⟨i,_,rfl,rfl,rfl,rfl⟩
 rintro q fr S' ⟨i',x47,rfl,hio,rfl,rfl⟩
 rw [←wp_W,e204_1]
 rw [Go.Sort.scanUp] at hio
 by_cases hlt:i'≤j
 ·have i0:=ia_N (id:=id) ha
  have i1:=ia_N (id:=id) (n:=n) (k:=i') (by omega)
  have d0:=ld_N (d:=d) (k:=a) hid (by omega)
  have d1:=ld_N (d:=d) (k:=i') hid (by omega)
  have c1:=v123 d[a]! d[i']!
  have m1:binD .add .num (iN i') (iN 1)=some (iN (i'+1)):=add_N (by omega)
  cases hc:ltR d[a]! d[i']! with
  | true=>
   rw [if_neg (by simp [hc])] at hio
   simp only [s204_1,l0,leq_N,hlt,decide_true,OX_some,gsel_tt,i0,i1,d0,d1,cmpF,fnD_fn,List.append_nil,c1,lss_c,hc,un_not,Bool.not_true,pick_t,WB_b,Bool.false_eq_true,if_false,Qseq_exit,Qblk_same]
   rw [hio];exact hQ _
  | false=>
   rw [if_pos (by simp [hlt,hc])] at hio
   simp only [s204_1,l0,l1,leq_N,hlt,decide_true,OX_some,gsel_tt,i0,i1,d0,d1,cmpF,fnD_fn,List.append_nil,c1,m1,lss_c,hc,un_not,Bool.not_false,pick_t,WB_b,if_true,Qseq_normal]
   exact ⟨j+1-(i'+1),by omega,i'+1,_,rfl,hio,rfl,rfl⟩
 ·rw [if_neg (by simp [hlt])] at hio
  simp only [s204_1,leq_N,hlt,decide_false,OX_some,gsel_ft,pick_f,WB_b,Bool.false_eq_true,if_false,Qseq_exit,Qblk_same]
  rw [hio];exact hQ _
theorem sc204_0 {S:Store} {id n:Nat} {d:Array Row} (a i j:Nat) (x10 x47 x65 x70:D) {Q:Ex→List D→Store→Prop} (hid:id<S.length) (hn:d.size=n) (ha:a<n) (hi:1≤i) (hj:j<n) (h9:n≤1000000)
  (hQ:∀ x47 x65,Q .normal (mkf 90 [(0,arN id n),(1,iN a),(4,cmpF),(10,x10),(11,iN i),(12,iN (Go.Sort.scanDown (fun x=>ltR d[a]! x) d i j)),(47,x47),(65,x65),(70,x70)]) (put S id d)) :
  W (call dp) (.loop [47] c204_0) (mkf 90 [(0,arN id n),(1,iN a),(4,cmpF),(10,x10),(11,iN i),(12,iN j),(47,x47),(65,x65),(70,x70)]) (put S id d) (Qblk 4 Q):=by
 let J:Nat→List D→Store→Prop:=fun q fr S'=>∃ x47 x65,q≤j∧Go.Sort.scanDown (fun x=>ltR d[a]! x) d i q=Go.Sort.scanDown (fun x=>ltR d[a]! x) d i j∧S'=put S id d∧fr=mkf 90 [(0,arN id n),(1,iN a),(4,cmpF),(10,x10),(11,iN i),(12,iN q),(47,x47),(65,x65),(70,x70)]
 refine W_loop J ?_ j _ _ ⟨_,_,by omega,rfl,rfl,rfl⟩
 rintro q fr S' ⟨x47,x65,hq,hio,rfl,rfl⟩
 rw [←wp_W,e204_0]
 cases q with
 | zero=>
  have hlt:¬i≤0:=by omega
  rw [Go.Sort.scanDown] at hio
  simp only [s204_0,leq_N,hlt,decide_false,OX_some,gsel_ft,pick_f,WB_b,Bool.false_eq_true,if_false,Qseq_exit,Qblk_same]
  rw [←hio] at hQ;exact hQ _ _
 | succ m=>
  rw [Go.Sort.scanDown] at hio
  by_cases hlt:i≤m+1
  ·have i0:=ia_N (id:=id) ha
   have i1:=ia_N (id:=id) (n:=n) (k:=m+1) (by omega)
   have d0:=ld_N (d:=d) (k:=a) hid (by omega)
   have d1:=ld_N (d:=d) (k:=m+1) hid (by omega)
   have c1:=v123 d[a]! d[m+1]!
   have m1:binD .sub .num (iN (m+1)) (iN 1)=some (iN m):=sub_N (by omega) (by omega)
   cases hc:ltR d[a]! d[m+1]! with
   | true=>
    rw [if_pos (by simp [hlt,hc])] at hio
    simp only [s204_0,l0,l1,leq_N,hlt,decide_true,OX_some,gsel_tt,i0,i1,d0,d1,cmpF,fnD_fn,List.append_nil,c1,m1,lss_c,hc,pick_t,WB_b,if_true,Qseq_normal]
    exact ⟨m,by omega,_,_,by omega,hio,rfl,rfl⟩
   | false=>
    rw [if_neg (by simp [hc])] at hio
    simp only [s204_0,l0,leq_N,hlt,decide_true,OX_some,gsel_tt,i0,i1,d0,d1,cmpF,fnD_fn,List.append_nil,c1,lss_c,hc,pick_t,WB_b,Bool.false_eq_true,if_false,Qseq_exit,Qblk_same]
    rw [hio];exact hQ _ _
  ·rw [if_neg (by simp [hlt])] at hio
   simp only [s204_0,leq_N,hlt,decide_false,OX_some,gsel_ft,pick_f,WB_b,Bool.false_eq_true,if_false,Qseq_exit,Qblk_same]
   rw [hio];exact hQ _ _
theorem sc205_4 {S:Store} {id n:Nat} {d:Array Row} (a i j:Nat) (x10 x11 x47 x66 x120 x139 x144:D) {Q:Ex→List D→Store→Prop} (hid:id<S.length) (hn:d.size=n) (ha:a<n) (hj:j<n) (h9:n≤1000000)
  (hQ:∀ x47,Q .normal (mkf 178 [(0,arN id n),(1,iN a),(4,cmpF),(10,x10),(11,x11),(12,iN (Go.Sort.scanUp (fun x=>ltR x d[a]!) d j i)),(13,iN j),(47,x47),(66,x66),(120,x120),(139,x139),(144,x144)]) (put S id d)) :
  W (call dp) (.loop [] c205_4) (mkf 178 [(0,arN id n),(1,iN a),(4,cmpF),(10,x10),(11,x11),(12,iN i),(13,iN j),(47,x47),(66,x66),(120,x120),(139,x139),(144,x144)]) (put S id d) (Qblk 0 Q):=by
 let J:Nat→List D→Store→Prop:=fun q fr S'=>∃ i' x47,q=j+1-i'∧Go.Sort.scanUp (fun x=>ltR x d[a]!) d j i'=Go.Sort.scanUp (fun x=>ltR x d[a]!) d j i∧S'=put S id d∧fr=mkf 178 [(0,arN id n),(1,iN a),(4,cmpF),(10,x10),(11,x11),(12,iN i'),(13,iN j),(47,x47),(66,x66),(120,x120),(139,x139),(144,x144)]
 refine W_loop J ?_ (j+1-i) _ _ ⟨i,_,rfl,rfl,rfl,rfl⟩
 rintro q fr S' ⟨i',x47,rfl,hio,rfl,rfl⟩
 rw [←wp_W,e205_4]
 rw [Go.Sort.scanUp] at hio
 by_cases hlt:i'≤j
 ·have i0:=ia_N (id:=id) ha
  have i1:=ia_N (id:=id) (n:=n) (k:=i') (by omega)
  have d0:=ld_N (d:=d) (k:=a) hid (by omega)
  have d1:=ld_N (d:=d) (k:=i') hid (by omega)
  have c1:=v123 d[i']! d[a]!
  have m1:binD .add .num (iN i') (iN 1)=some (iN (i'+1)):=add_N (by omega)
  cases hc:ltR d[i']! d[a]! with
  | true=>
   rw [if_pos (by simp [hlt,hc])] at hio
   simp only [s205_4,l0,l1,leq_N,hlt,decide_true,OX_some,gsel_tt,i0,i1,d0,d1,cmpF,fnD_fn,List.append_nil,c1,m1,lss_c,hc,pick_t,WB_b,if_true,Qseq_normal]
   exact ⟨j+1-(i'+1),by omega,i'+1,_,rfl,hio,rfl,rfl⟩
  | false=>
   rw [if_neg (by simp [hc])] at hio
   simp only [s205_4,l0,leq_N,hlt,decide_true,OX_some,gsel_tt,i0,i1,d0,d1,cmpF,fnD_fn,List.append_nil,c1,lss_c,hc,pick_t,WB_b,Bool.false_eq_true,if_false,Qseq_exit,Qblk_same]
   rw [hio];exact hQ _
 ·rw [if_neg (by simp [hlt])] at hio
  simp only [s205_4,leq_N,hlt,decide_false,OX_some,gsel_ft,pick_f,WB_b,Bool.false_eq_true,if_false,Qseq_exit,Qblk_same]
  rw [hio];exact hQ _
theorem sc205_3 {S:Store} {id n:Nat} {d:Array Row} (a i j:Nat) (x10 x11 x47 x66 x120 x139 x144:D) {Q:Ex→List D→Store→Prop} (hid:id<S.length) (hn:d.size=n) (ha:a<n) (hi:1≤i) (hj:j<n) (h9:n≤1000000)
  (hQ:∀ x47 x66,Q .normal (mkf 178 [(0,arN id n),(1,iN a),(4,cmpF),(10,x10),(11,x11),(12,iN i),(13,iN (Go.Sort.scanDown (fun x=>!ltR x d[a]!) d i j)),(47,x47),(66,x66),(120,x120),(139,x139),(144,x144)]) (put S id d)) :
  W (call dp) (.loop [47] c205_3) (mkf 178 [(0,arN id n),(1,iN a),(4,cmpF),(10,x10),(11,x11),(12,iN i),(13,iN j),(47,x47),(66,x66),(120,x120),(139,x139),(144,x144)]) (put S id d) (Qblk 2 Q):=by
 let J:Nat→List D→Store→Prop:=fun q fr S'=>∃ x47 x66,q≤j∧Go.Sort.scanDown (fun x=>!ltR x d[a]!) d i q=Go.Sort.scanDown (fun x=>!ltR x d[a]!) d i j∧S'=put S id d∧fr=mkf 178 [(0,arN id n),(1,iN a),(4,cmpF),(10,x10),(11,x11),(12,iN i),(13,iN q),(47,x47),(66,x66),(120,x120),(139,x139),(144,x144)]
 refine W_loop J ?_ j _ _ ⟨_,_,by omega,rfl,rfl,rfl⟩
 rintro q fr S' ⟨x47,x66,hq,hio,rfl,rfl⟩
 rw [←wp_W,e205_3]
 cases q with
 | zero=>
  have hlt:¬i≤0:=by omega
  rw [Go.Sort.scanDown] at hio
  simp only [s205_3,leq_N,hlt,decide_false,OX_some,gsel_ft,pick_f,WB_b,Bool.false_eq_true,if_false,Qseq_exit,Qblk_same]
  rw [←hio] at hQ;exact hQ _ _
 | succ m=>
  rw [Go.Sort.scanDown] at hio
  by_cases hlt:i≤m+1
  ·have i0:=ia_N (id:=id) ha
   have i1:=ia_N (id:=id) (n:=n) (k:=m+1) (by omega)
   have d0:=ld_N (d:=d) (k:=a) hid (by omega)
   have d1:=ld_N (d:=d) (k:=m+1) hid (by omega)
   have c1:=v123 d[m+1]! d[a]!
   have m1:binD .sub .num (iN (m+1)) (iN 1)=some (iN m):=sub_N (by omega) (by omega)
   cases hc:ltR d[m+1]! d[a]! with
   | true=>
    rw [if_neg (by simp [hc])] at hio
    simp only [s205_3,l0,leq_N,hlt,decide_true,OX_some,gsel_tt,i0,i1,d0,d1,cmpF,fnD_fn,List.append_nil,c1,lss_c,hc,un_not,Bool.not_true,pick_t,WB_b,Bool.false_eq_true,if_false,Qseq_exit,Qblk_same]
    rw [hio];exact hQ _ _
   | false=>
    rw [if_pos (by simp [hlt,hc])] at hio
    simp only [s205_3,l0,l1,leq_N,hlt,decide_true,OX_some,gsel_tt,i0,i1,d0,d1,cmpF,fnD_fn,List.append_nil,c1,m1,lss_c,hc,un_not,Bool.not_false,pick_t,WB_b,if_true,Qseq_normal]
    exact ⟨m,by omega,_,_,by omega,hio,rfl,rfl⟩
  ·rw [if_neg (by simp [hlt])] at hio
   simp only [s205_3,leq_N,hlt,decide_false,OX_some,gsel_ft,pick_f,WB_b,Bool.false_eq_true,if_false,Qseq_exit,Qblk_same]
   rw [hio];exact hQ _ _
theorem sc205_1 {S:Store} {id n:Nat} {d:Array Row} (a i j:Nat) (x10 x11 x47 x66 x120 x139 x144:D) {Q:Ex→List D→Store→Prop} (hid:id<S.length) (hn:d.size=n) (ha:a<n) (hj:j<n) (h9:n≤1000000)
  (hQ:∀ x120,Q .normal (mkf 178 [(0,arN id n),(1,iN a),(4,cmpF),(10,x10),(11,x11),(12,iN (Go.Sort.scanUp (fun x=>ltR x d[a]!) d j i)),(13,iN j),(47,x47),(66,x66),(120,x120),(139,x139),(144,x144)]) (put S id d)) :
  W (call dp) (.loop [] c205_1) (mkf 178 [(0,arN id n),(1,iN a),(4,cmpF),(10,x10),(11,x11),(12,iN i),(13,iN j),(47,x47),(66,x66),(120,x120),(139,x139),(144,x144)]) (put S id d) (Qblk 6 Q):=by
 let J:Nat→List D→Store→Prop:=fun q fr S'=>∃ i' x120,q=j+1-i'∧Go.Sort.scanUp (fun x=>ltR x d[a]!) d j i'=Go.Sort.scanUp (fun x=>ltR x d[a]!) d j i∧S'=put S id d∧fr=mkf 178 [(0,arN id n),(1,iN a),(4,cmpF),(10,x10),(11,x11),(12,iN i'),(13,iN j),(47,x47),(66,x66),(120,x120),(139,x139),(144,x144)]
 refine W_loop J ?_ (j+1-i) _ _ ⟨i,_,rfl,rfl,rfl,rfl⟩
 rintro q fr S' ⟨i',x120,rfl,hio,rfl,rfl⟩
 rw [←wp_W,e205_1]
 rw [Go.Sort.scanUp] at hio
 by_cases hlt:i'≤j
 ·have i0:=ia_N (id:=id) ha
  have i1:=ia_N (id:=id) (n:=n) (k:=i') (by omega)
  have d0:=ld_N (d:=d) (k:=a) hid (by omega)
  have d1:=ld_N (d:=d) (k:=i') hid (by omega)
  have c1:=v123 d[i']! d[a]!
  have m1:binD .add .num (iN i') (iN 1)=some (iN (i'+1)):=add_N (by omega)
  cases hc:ltR d[i']! d[a]! with
  | true=>
   rw [if_pos (by simp [hlt,hc])] at hio
   simp only [s205_1,l0,l1,leq_N,hlt,decide_true,OX_some,gsel_tt,i0,i1,d0,d1,cmpF,fnD_fn,List.append_nil,c1,m1,lss_c,hc,pick_t,WB_b,if_true,Qseq_normal]
   exact ⟨j+1-(i'+1),by omega,i'+1,_,rfl,hio,rfl,rfl⟩
  | false=>
   rw [if_neg (by simp [hc])] at hio
   simp only [s205_1,l0,leq_N,hlt,decide_true,OX_some,gsel_tt,i0,i1,d0,d1,cmpF,fnD_fn,List.append_nil,c1,lss_c,hc,pick_t,WB_b,Bool.false_eq_true,if_false,Qseq_exit,Qblk_same]
   rw [hio];exact hQ _
 ·rw [if_neg (by simp [hlt])] at hio
  simp only [s205_1,leq_N,hlt,decide_false,OX_some,gsel_ft,pick_f,WB_b,Bool.false_eq_true,if_false,Qseq_exit,Qblk_same]
  rw [hio];exact hQ _
theorem sc205_0 {S:Store} {id n:Nat} {d:Array Row} (a i j:Nat) (x10 x11 x47 x66 x120 x139 x144:D) {Q:Ex→List D→Store→Prop} (hid:id<S.length) (hn:d.size=n) (ha:a<n) (hi:1≤i) (hj:j<n) (h9:n≤1000000)
  (hQ:∀ x120 x139,Q .normal (mkf 178 [(0,arN id n),(1,iN a),(4,cmpF),(10,x10),(11,x11),(12,iN i),(13,iN (Go.Sort.scanDown (fun x=>!ltR x d[a]!) d i j)),(47,x47),(66,x66),(120,x120),(139,x139),(144,x144)]) (put S id d)) :
  W (call dp) (.loop [120] c205_0) (mkf 178 [(0,arN id n),(1,iN a),(4,cmpF),(10,x10),(11,x11),(12,iN i),(13,iN j),(47,x47),(66,x66),(120,x120),(139,x139),(144,x144)]) (put S id d) (Qblk 8 Q):=by
 let J:Nat→List D→Store→Prop:=fun q fr S'=>∃ x120 x139,q≤j∧Go.Sort.scanDown (fun x=>!ltR x d[a]!) d i q=Go.Sort.scanDown (fun x=>!ltR x d[a]!) d i j∧S'=put S id d∧fr=mkf 178 [(0,arN id n),(1,iN a),(4,cmpF),(10,x10),(11,x11),(12,iN i),(13,iN q),(47,x47),(66,x66),(120,x120),(139,x139),(144,x144)]
 refine W_loop J ?_ j _ _ ⟨_,_,by omega,rfl,rfl,rfl⟩
 rintro q fr S' ⟨x120,x139,hq,hio,rfl,rfl⟩
 rw [←wp_W,e205_0]
 cases q with
 | zero=>
  have hlt:¬i≤0:=by omega
  rw [Go.Sort.scanDown] at hio
  simp only [s205_0,leq_N,hlt,decide_false,OX_some,gsel_ft,pick_f,WB_b,Bool.false_eq_true,if_false,Qseq_exit,Qblk_same]
  rw [←hio] at hQ;exact hQ _ _
 | succ m=>
  rw [Go.Sort.scanDown] at hio
  by_cases hlt:i≤m+1
  ·have i0:=ia_N (id:=id) ha
   have i1:=ia_N (id:=id) (n:=n) (k:=m+1) (by omega)
   have d0:=ld_N (d:=d) (k:=a) hid (by omega)
   have d1:=ld_N (d:=d) (k:=m+1) hid (by omega)
   have c1:=v123 d[m+1]! d[a]!
   have m1:binD .sub .num (iN (m+1)) (iN 1)=some (iN m):=sub_N (by omega) (by omega)
   cases hc:ltR d[m+1]! d[a]! with
   | true=>
    rw [if_neg (by simp [hc])] at hio
    simp only [s205_0,l0,leq_N,hlt,decide_true,OX_some,gsel_tt,i0,i1,d0,d1,cmpF,fnD_fn,List.append_nil,c1,lss_c,hc,un_not,Bool.not_true,pick_t,WB_b,Bool.false_eq_true,if_false,Qseq_exit,Qblk_same]
    rw [hio];exact hQ _ _
   | false=>
    rw [if_pos (by simp [hlt,hc])] at hio
    simp only [s205_0,l0,l1,leq_N,hlt,decide_true,OX_some,gsel_tt,i0,i1,d0,d1,cmpF,fnD_fn,List.append_nil,c1,m1,lss_c,hc,un_not,Bool.not_false,pick_t,WB_b,if_true,Qseq_normal]
    exact ⟨m,by omega,_,_,by omega,hio,rfl,rfl⟩
  ·rw [if_neg (by simp [hlt])] at hio
   simp only [s205_0,leq_N,hlt,decide_false,OX_some,gsel_ft,pick_f,WB_b,Bool.false_eq_true,if_false,Qseq_exit,Qblk_same]
   rw [hio];exact hQ _ _
end Go.Proofs.YtjlmeikcfdanmaaGreatDoor.DE.V

namespace Go.Proofs.YtjlmeikcfdanmaaGreatDoor.DE.V
open Go
theorem scanUp_le (p:Row→Bool) (d:Array Row) (j i:Nat):Go.Sort.scanUp p d j i≤max i (j+1):=by
 fun_induction Go.Sort.scanUp p d j i
 ·rename_i h ih
  simp at h;omega
 ·omega
theorem v204 {S:Store} {id n:Nat} {d:Array Row} (a b pv:Nat) (hid:id<S.length) (hn:d.size=n) (ha:a≤pv) (hp:pv<b) (hb:b≤n) (h9:n≤1000000) :
  call dp 204 [arN id n,iN a,iN b,iN pv,cmpF] (put S id d)=some (iN (Go.Sort.partitionEqual ltR d a b pv).1,put S id (Go.Sort.partitionEqual ltR d a b pv).2):=by
 obtain ⟨r,S',e,rfl,rfl⟩:=f204 (arN id n) (iN a) (iN b) (iN pv) cmpF (put S id d) (fun r S'=>r=iN (Go.Sort.partitionEqual ltR d a b pv).1∧S'=put S id (Go.Sort.partitionEqual ltR d a b pv).2) (by
  have i0:=ia_N (id:=id) (n:=n) (k:=a) (by omega)
  have i1:=ia_N (id:=id) (n:=n) (k:=pv) (by omega)
  have d0:=ld_N (d:=d) (k:=a) hid (by omega)
  have d1:=ld_N (d:=d) (k:=pv) hid (by omega)
  have s1:=st_N (d:=d) (k:=a) d[pv]! hid (by omega)
  have s2:=st_N (d:=d.setIfInBounds a d[pv]!) (k:=pv) d[a]! hid (by simp;omega)
  have m1:binD .add .num (iN a) (iN 1)=some (iN (a+1)):=add_N (by omega)
  have m2:binD .sub .num (iN b) (iN 1)=some (iN (b-1)):=sub_N (by omega) (by omega)
  simp only [s204,l1,i0,i1,d0,d1,OX_some,s1,s2,m1,m2]
  let J:Nat→List D→Store→Prop:=fun q fr S'=>∃ i j d' x10 x47 x65 x70,q=j+1-i∧a<i∧i≤n∧j<n∧d'.size=n∧Go.Sort.partEqLoop ltR a i j d'=Go.Sort.partitionEqual ltR d a b pv∧S'=put S id d' ∧
   fr=mkf 90 [(0,arN id n),(1,iN a),(4,cmpF),(10,x10),(11,iN i),(12,iN j),(47,x47),(65,x65),(70,x70)]
  refine W_loop J ?_ (b-1+1-(a+1)) _ _ ⟨a+1,b-1,Go.Sort.swp d a pv,_,_,_,_,rfl,by omega,by omega,by omega,(swp_size _ _ _).trans hn,rfl,rfl,rfl⟩
  rintro q fr S' ⟨i,j,d',x10,x47,x65,x70,rfl,hai,hij,hj,hn',hio,rfl,rfl⟩
  rw [←wp_W,e204_2]
  rw [Go.Sort.partEqLoop_eq] at hio
  simp only [s204_2]
  refine sc204_1 a i j _ _ _ _ hid hn' (by omega) hj h9 ?_
  intro x47
  have u1:=Go.Sort.scanUp_ge (fun x=>!ltR d'[a]! x) d' j i
  have u2:=scanUp_le (fun x=>!ltR d'[a]! x) d' j i
  generalize Go.Sort.scanUp (fun x=>!ltR d'[a]! x) d' j i=i2 at *
  simp only [QS_normal,e204_r1,s204_r1]
  refine sc204_0 a i2 j _ _ _ _ hid hn' (by omega) (by omega) hj h9 ?_
  intro x47 x65
  have v1:=Go.Sort.scanDown_le (fun x=>ltR d'[a]! x) d' i2 j
  generalize Go.Sort.scanDown (fun x=>ltR d'[a]! x) d' i2 j=j2 at *
  simp only [QS_normal,e204_r0]
  by_cases h:j2<i2
  ·rw [if_pos h] at hio
   simp only [s204_r0,gtr_N,h,decide_true,OX_some,WB_b,if_true,Qblk_other 1 0 rfl,Qseq_exit,Qblk_same,QS_normal,e204_r2,s204_r2,FinK_ret1]
   simp [←hio]
  ·rw [if_neg h] at hio
   have i0:=ia_N (id:=id) (n:=n) (k:=i2) (by omega)
   have i1:=ia_N (id:=id) (n:=n) (k:=j2) (by omega)
   have d0:=ld_N (d:=d') (k:=i2) hid (by omega)
   have d1:=ld_N (d:=d') (k:=j2) hid (by omega)
   have s1:=st_N (d:=d') (k:=i2) d'[j2]! hid (by omega)
   have s2:=st_N (d:=d'.setIfInBounds i2 d'[j2]!) (k:=j2) d'[i2]! hid (by simp;omega)
   have m1:binD .add .num (iN i2) (iN 1)=some (iN (i2+1)):=add_N (by omega)
   have m2:binD .sub .num (iN j2) (iN 1)=some (iN (j2-1)):=sub_N (by omega) (by omega)
   simp only [s204_r0,l1,gtr_N,h,decide_false,OX_some,WB_b,Bool.false_eq_true,if_false,i0,i1,d0,d1,s1,s2,m1,m2,Qblk_normal,Qseq_normal]
   exact ⟨j2-1+1-(i2+1),by omega,i2+1,j2-1,Go.Sort.swp d' i2 j2,_,_,_,_,rfl,by omega,by omega,by omega,(swp_size _ _ _).trans hn',hio,rfl,rfl⟩)
 exact e
theorem v205 {S:Store} {id n:Nat} {d:Array Row} (a b pv:Nat) (hid:id<S.length) (hn:d.size=n) (ha:a≤pv) (hp:pv<b) (hb:b≤n) (h9:n≤1000000) :
  call dp 205 [arN id n,iN a,iN b,iN pv,cmpF] (put S id d)=some (.tup [iN (Go.Sort.partition ltR d a b pv).1,.b (Go.Sort.partition ltR d a b pv).2.1],put S id (Go.Sort.partition ltR d a b pv).2.2):=by
 obtain ⟨P,hP⟩:∃ P,P=Go.Sort.partition ltR d a b pv:=⟨_,rfl⟩
 rw [←hP]
 obtain ⟨r,S',e,rfl,rfl⟩:=f205 (arN id n) (iN a) (iN b) (iN pv) cmpF (put S id d) (fun r S'=>r = .tup [iN P.1,.b P.2.1]∧S'=put S id P.2.2) (by
  have i0:=ia_N (id:=id) (n:=n) (k:=a) (by omega)
  have i1:=ia_N (id:=id) (n:=n) (k:=pv) (by omega)
  have d0:=ld_N (d:=d) (k:=a) hid (by omega)
  have d1:=ld_N (d:=d) (k:=pv) hid (by omega)
  have s1:=st_N (d:=d) (k:=a) d[pv]! hid (by omega)
  have s2:=st_N (d:=d.setIfInBounds a d[pv]!) (k:=pv) d[a]! hid (by simp;omega)
  have m1:binD .add .num (iN a) (iN 1)=some (iN (a+1)):=add_N (by omega)
  have m2:binD .sub .num (iN b) (iN 1)=some (iN (b-1)):=sub_N (by omega) (by omega)
  have hsw:(d.setIfInBounds a d[pv]!).setIfInBounds pv d[a]! = Go.Sort.swp d a pv:=rfl
  simp only [s205,l1,i0,i1,d0,d1,OX_some,s1,s2,m1,m2,hsw]
  simp only [Go.Sort.partition] at hP
  have hn1:(Go.Sort.swp d a pv).size=n:=(swp_size _ _ _).trans hn
  generalize Go.Sort.swp d a pv=e at *
  refine sc205_4 a (a+1) (b-1) _ _ _ _ _ _ _ hid hn1 (by omega) (by omega) h9 ?_
  intro x47
  have u1:=Go.Sort.scanUp_ge (fun x=>ltR x e[a]!) e (b-1) (a+1)
  have u2:=scanUp_le (fun x=>ltR x e[a]!) e (b-1) (a+1)
  generalize Go.Sort.scanUp (fun x=>ltR x e[a]!) e (b-1) (a+1)=i at *
  simp only [QS_normal,e205_r4,s205_r4]
  refine sc205_3 a i (b-1) _ _ _ _ _ _ _ hid hn1 (by omega) (by omega) (by omega) h9 ?_
  intro x47 x66
  have v1:=Go.Sort.scanDown_le (fun x=>!ltR x e[a]!) e i (b-1)
  generalize Go.Sort.scanDown (fun x=>!ltR x e[a]!) e i (b-1)=j at *
  simp only [QS_normal,e205_r3]
  have i0:=ia_N (id:=id) (n:=n) (k:=a) (by omega)
  have i1:=ia_N (id:=id) (n:=n) (k:=j) (by omega)
  have d0:=ld_N (d:=e) (k:=a) hid (by omega)
  have d1:=ld_N (d:=e) (k:=j) hid (by omega)
  by_cases h:j<i
  ·rw [if_pos h] at hP
   have s1:=st_N (d:=e) (k:=j) e[a]! hid (by omega)
   have s2:=st_N (d:=e.setIfInBounds j e[a]!) (k:=a) e[j]! hid (by simp;omega)
   subst hP
   simp only [s205_r3,gtr_N,h,decide_true,OX_some,WB_b,if_true,i0,i1,d0,d1,s1,s2,FinK_ret2]
   exact ⟨rfl,rfl⟩
  ·rw [if_neg h] at hP
   have i2:=ia_N (id:=id) (n:=n) (k:=i) (by omega)
   have d2:=ld_N (d:=e) (k:=i) hid (by omega)
   have s1:=st_N (d:=e) (k:=i) e[j]! hid (by omega)
   have s2:=st_N (d:=e.setIfInBounds i e[j]!) (k:=j) e[i]! hid (by simp;omega)
   have m1:binD .add .num (iN i) (iN 1)=some (iN (i+1)):=add_N (by omega)
   have m2:binD .sub .num (iN j) (iN 1)=some (iN (j-1)):=sub_N (by omega) (by omega)
   simp only [s205_r3,l1,gtr_N,h,decide_false,OX_some,WB_b,Bool.false_eq_true,if_false,i1,i2,d1,d2,s1,s2,m1,m2]
   let J:Nat→List D→Store→Prop:=fun q fr S'=>∃ i j d' x10 x11 x47 x66 x120 x139 x144,q=j+1-i∧a<i∧i≤n∧j<n∧d'.size=n ∧
    P=(let r:=Go.Sort.partLoop ltR a i j d';(r.1,false,Go.Sort.swp r.2 r.1 a))∧S'=put S id d' ∧
    fr=mkf 178 [(0,arN id n),(1,iN a),(4,cmpF),(10,x10),(11,x11),(12,iN i),(13,iN j),(47,x47),(66,x66),(120,x120),(139,x139),(144,x144)]
   refine W_loop J ?_ (j-1+1-(i+1)) _ _ ⟨i+1,j-1,Go.Sort.swp e i j,_,_,_,_,_,_,_,rfl,by omega,by omega,by omega,(swp_size _ _ _).trans hn1,hP,rfl,rfl⟩
   clear hP i0 i1 i2 d0 d1 d2 s1 s2 m1 m2
   rintro q fr S' ⟨i,j,d',x10,x11,x47,x66,x120,x139,x144,rfl,hai,hij,hj,hn',hP,rfl,rfl⟩
   rw [←wp_W,e205_2]
   rw [Go.Sort.partLoop_eq] at hP
   simp only [s205_2]
   refine sc205_1 a i j _ _ _ _ _ _ _ hid hn' (by omega) hj h9 ?_
   intro x120
   have u1:=Go.Sort.scanUp_ge (fun x=>ltR x d'[a]!) d' j i
   have u2:=scanUp_le (fun x=>ltR x d'[a]!) d' j i
   generalize Go.Sort.scanUp (fun x=>ltR x d'[a]!) d' j i=i2 at *
   simp only [QS_normal,e205_r1,s205_r1]
   refine sc205_0 a i2 j _ _ _ _ _ _ _ hid hn' (by omega) (by omega) hj h9 ?_
   intro x120 x139
   have v1:=Go.Sort.scanDown_le (fun x=>!ltR x d'[a]!) d' i2 j
   generalize Go.Sort.scanDown (fun x=>!ltR x d'[a]!) d' i2 j=j2 at *
   simp only [QS_normal,e205_r0]
   by_cases h:j2<i2
   ·rw [if_pos h] at hP
    have i0:=ia_N (id:=id) (n:=n) (k:=a) (by omega)
    have i1:=ia_N (id:=id) (n:=n) (k:=j2) (by omega)
    have d0:=ld_N (d:=d') (k:=a) hid (by omega)
    have d1:=ld_N (d:=d') (k:=j2) hid (by omega)
    have s1:=st_N (d:=d') (k:=j2) d'[a]! hid (by omega)
    have s2:=st_N (d:=d'.setIfInBounds j2 d'[a]!) (k:=a) d'[j2]! hid (by simp;omega)
    subst hP
    simp only [s205_r0,gtr_N,h,decide_true,OX_some,WB_b,if_true,Qblk_other 5 4 rfl,Qseq_exit,Qblk_same,QS_normal,e205_r2,s205_r2,i0,i1,d0,d1,s1,s2]
    exact ⟨rfl,rfl⟩
   ·rw [if_neg h] at hP
    have i0:=ia_N (id:=id) (n:=n) (k:=i2) (by omega)
    have i1:=ia_N (id:=id) (n:=n) (k:=j2) (by omega)
    have d0:=ld_N (d:=d') (k:=i2) hid (by omega)
    have d1:=ld_N (d:=d') (k:=j2) hid (by omega)
    have s1:=st_N (d:=d') (k:=i2) d'[j2]! hid (by omega)
    have s2:=st_N (d:=d'.setIfInBounds i2 d'[j2]!) (k:=j2) d'[i2]! hid (by simp;omega)
    have m1:binD .add .num (iN i2) (iN 1)=some (iN (i2+1)):=add_N (by omega)
    have m2:binD .sub .num (iN j2) (iN 1)=some (iN (j2-1)):=sub_N (by omega) (by omega)
    simp only [s205_r0,l1,gtr_N,h,decide_false,OX_some,WB_b,Bool.false_eq_true,if_false,i0,i1,d0,d1,s1,s2,m1,m2,Qblk_normal,Qseq_normal]
    exact ⟨j2-1+1-(i2+1),by omega,i2+1,j2-1,Go.Sort.swp d' i2 j2,_,_,_,_,_,_,_,rfl,by omega,by omega,by omega,(swp_size _ _ _).trans hn',hP,rfl,rfl⟩)
 exact e
end Go.Proofs.YtjlmeikcfdanmaaGreatDoor.DE.V

namespace Go.Proofs.YtjlmeikcfdanmaaGreatDoor.DE.V
open Go
set_option maxRecDepth 20000
def uN (k:Nat):D:=.i .u64 (k:Int)
theorem wrapU (n:Int):∃ y:Nat,y<18446744073709551616∧IntKind.wrap .u64 n=y:=by
 have e:IntKind.wrap .u64 n=n % 18446744073709551616:=by simp [IntKind.wrap,IntKind.signed,IntKind.bits]
 rw [e]
 exact ⟨(n % 18446744073709551616).toNat,by omega,by omega⟩
theorem wrapUN {n:Nat} (h:n<18446744073709551616):IntKind.wrap .u64 (n:Int)=n:=by
 have e:(n:Int) % 18446744073709551616=n:=by omega
 simp [IntKind.wrap,IntKind.signed,IntKind.bits,e]
theorem wrapB {n:Nat} (h:n<256):IntKind.wrap .u8 (n:Int)=n:=by
 have e:(n:Int) % 256=n:=by omega
 simp [IntKind.wrap,IntKind.signed,IntKind.bits,e]
theorem cv (k k':IntKind) (n:Int):convD k (.i k' n)=some (.i k (k.wrap n)):=(rfl)
theorem cv1 {l:Nat} (h:l<4000000000):convD .u64 (iN l)=some (uN l):=by rw [iN,cv,wrapUN (by omega)];rfl
theorem cv2 {l:Nat} (h:l<256):convD .u8 (uN l)=some (.i .u8 l):=by rw [uN,cv,wrapB h]
theorem cv3 {k:IntKind} {l:Nat} (h:l<4000000000):convD .i64 (.i k l)=some (iN l):=by rw [cv,wrap64 ⟨by omega,by omega⟩];rfl
theorem len50:∀ l:Nat,l<50→([0,1,2,2,3,3,3,3,4,4,4,4,4,4,4,4,5,5,5,5,5,5,5,5,5,5,5,5,5,5,5,5,6,6,6,6,6,6,6,6,6,6,6,6,6,6,6,6,6,6,6,6,6,6,6,6,6,6,6,6,6,6,6,6,7,7,7,7,7,7,7,7,7,7,7,7,7,7,7,7,7,7,7,7,7,7,7,7,7,7,7,7,7,7,7,7,7,7,7,7,7,7,7,7,7,7,7,7,7,7,7,7,7,7,7,7,7,7,7,7,7,7,7,7,7,7,7,7,8,8,8,8,8,8,8,8,8,8,8,8,8,8,8,8,8,8,8,8,8,8,8,8,8,8,8,8,8,8,8,8,8,8,8,8,8,8,8,8,8,8,8,8,8,8,8,8,8,8,8,8,8,8,8,8,8,8,8,8,8,8,8,8,8,8,8,8,8,8,8,8,8,8,8,8,8,8,8,8,8,8,8,8,8,8,8,8,8,8,8,8,8,8,8,8,8,8,8,8,8,8,8,8,8,8,8,8,8,8,8,8,8,8,8,8,8,8,8,8,8,8,8,8,8,8,8,8]:List UInt8)[l]? = some (([0,1,2,2,3,3,3,3,4,4,4,4,4,4,4,4,5,5,5,5,5,5,5,5,5,5,5,5,5,5,5,5,6,6,6,6,6,6,6,6,6,6,6,6,6,6,6,6,6,6,6,6,6,6,6,6,6,6,6,6,6,6,6,6,7,7,7,7,7,7,7,7,7,7,7,7,7,7,7,7,7,7,7,7,7,7,7,7,7,7,7,7,7,7,7,7,7,7,7,7,7,7,7,7,7,7,7,7,7,7,7,7,7,7,7,7,7,7,7,7,7,7,7,7,7,7,7,7,8,8,8,8,8,8,8,8,8,8,8,8,8,8,8,8,8,8,8,8,8,8,8,8,8,8,8,8,8,8,8,8,8,8,8,8,8,8,8,8,8,8,8,8,8,8,8,8,8,8,8,8,8,8,8,8,8,8,8,8,8,8,8,8,8,8,8,8,8,8,8,8,8,8,8,8,8,8,8,8,8,8,8,8,8,8,8,8,8,8,8,8,8,8,8,8,8,8,8,8,8,8,8,8,8,8,8,8,8,8,8,8,8,8,8,8,8,8,8,8,8,8,8,8,8,8,8,8]:List UInt8)[l]?.getD 0)∧(([0,1,2,2,3,3,3,3,4,4,4,4,4,4,4,4,5,5,5,5,5,5,5,5,5,5,5,5,5,5,5,5,6,6,6,6,6,6,6,6,6,6,6,6,6,6,6,6,6,6,6,6,6,6,6,6,6,6,6,6,6,6,6,6,7,7,7,7,7,7,7,7,7,7,7,7,7,7,7,7,7,7,7,7,7,7,7,7,7,7,7,7,7,7,7,7,7,7,7,7,7,7,7,7,7,7,7,7,7,7,7,7,7,7,7,7,7,7,7,7,7,7,7,7,7,7,7,7,8,8,8,8,8,8,8,8,8,8,8,8,8,8,8,8,8,8,8,8,8,8,8,8,8,8,8,8,8,8,8,8,8,8,8,8,8,8,8,8,8,8,8,8,8,8,8,8,8,8,8,8,8,8,8,8,8,8,8,8,8,8,8,8,8,8,8,8,8,8,8,8,8,8,8,8,8,8,8,8,8,8,8,8,8,8,8,8,8,8,8,8,8,8,8,8,8,8,8,8,8,8,8,8,8,8,8,8,8,8,8,8,8,8,8,8,8,8,8,8,8,8,8,8,8,8,8,8]:List UInt8)[l]?.getD 0).toNat≤6∧(1≤l→2 ^ (([0,1,2,2,3,3,3,3,4,4,4,4,4,4,4,4,5,5,5,5,5,5,5,5,5,5,5,5,5,5,5,5,6,6,6,6,6,6,6,6,6,6,6,6,6,6,6,6,6,6,6,6,6,6,6,6,6,6,6,6,6,6,6,6,7,7,7,7,7,7,7,7,7,7,7,7,7,7,7,7,7,7,7,7,7,7,7,7,7,7,7,7,7,7,7,7,7,7,7,7,7,7,7,7,7,7,7,7,7,7,7,7,7,7,7,7,7,7,7,7,7,7,7,7,7,7,7,7,8,8,8,8,8,8,8,8,8,8,8,8,8,8,8,8,8,8,8,8,8,8,8,8,8,8,8,8,8,8,8,8,8,8,8,8,8,8,8,8,8,8,8,8,8,8,8,8,8,8,8,8,8,8,8,8,8,8,8,8,8,8,8,8,8,8,8,8,8,8,8,8,8,8,8,8,8,8,8,8,8,8,8,8,8,8,8,8,8,8,8,8,8,8,8,8,8,8,8,8,8,8,8,8,8,8,8,8,8,8,8,8,8,8,8,8,8,8,8,8,8,8,8,8,8,8,8,8]:List UInt8)[l]?.getD 0).toNat≤2 * l):=by decide
theorem v207 (l:Nat) (h:l<50):∃ v:Nat,isoCall (call dp) 207 [uN l]=some (iN v)∧v≤6∧(1≤l→2 ^ v≤2 * l):=by
 obtain ⟨h1,h2,h3⟩:=len50 l h
 refine ⟨_,?_,h2,h3⟩
 generalize hc:([0,1,2,2,3,3,3,3,4,4,4,4,4,4,4,4,5,5,5,5,5,5,5,5,5,5,5,5,5,5,5,5,6,6,6,6,6,6,6,6,6,6,6,6,6,6,6,6,6,6,6,6,6,6,6,6,6,6,6,6,6,6,6,6,7,7,7,7,7,7,7,7,7,7,7,7,7,7,7,7,7,7,7,7,7,7,7,7,7,7,7,7,7,7,7,7,7,7,7,7,7,7,7,7,7,7,7,7,7,7,7,7,7,7,7,7,7,7,7,7,7,7,7,7,7,7,7,7,8,8,8,8,8,8,8,8,8,8,8,8,8,8,8,8,8,8,8,8,8,8,8,8,8,8,8,8,8,8,8,8,8,8,8,8,8,8,8,8,8,8,8,8,8,8,8,8,8,8,8,8,8,8,8,8,8,8,8,8,8,8,8,8,8,8,8,8,8,8,8,8,8,8,8,8,8,8,8,8,8,8,8,8,8,8,8,8,8,8,8,8,8,8,8,8,8,8,8,8,8,8,8,8,8,8,8,8,8,8,8,8,8,8,8,8,8,8,8,8,8,8,8,8,8,8,8,8]:List UInt8)[l]?.getD 0=c at *
 have hix:ixsD (.s ([0,1,2,2,3,3,3,3,4,4,4,4,4,4,4,4,5,5,5,5,5,5,5,5,5,5,5,5,5,5,5,5,6,6,6,6,6,6,6,6,6,6,6,6,6,6,6,6,6,6,6,6,6,6,6,6,6,6,6,6,6,6,6,6,7,7,7,7,7,7,7,7,7,7,7,7,7,7,7,7,7,7,7,7,7,7,7,7,7,7,7,7,7,7,7,7,7,7,7,7,7,7,7,7,7,7,7,7,7,7,7,7,7,7,7,7,7,7,7,7,7,7,7,7,7,7,7,7,8,8,8,8,8,8,8,8,8,8,8,8,8,8,8,8,8,8,8,8,8,8,8,8,8,8,8,8,8,8,8,8,8,8,8,8,8,8,8,8,8,8,8,8,8,8,8,8,8,8,8,8,8,8,8,8,8,8,8,8,8,8,8,8,8,8,8,8,8,8,8,8,8,8,8,8,8,8,8,8,8,8,8,8,8,8,8,8,8,8,8,8,8,8,8,8,8,8,8,8,8,8,8,8,8,8,8,8,8,8,8,8,8,8,8,8,8,8,8,8,8,8,8,8,8,8,8,8]:List UInt8)) (.i .u8 l)=some (.i .u8 c.toNat):=by
  simp only [ixsD]
  rw [if_pos (by omega),Int.toNat_natCast,h1]
  rfl
 have a1:¬(4294967296:Int)≤l:=by omega
 have a2:¬(65536:Int)≤l:=by omega
 have a3:¬(256:Int)≤l:=by omega
 have c2:convD .u8 (.i .u64 l)=some (.i .u8 l):=cv2 (by omega)
 have c3:=cv3 (k:=.u8) (l:=c.toNat) (by omega)
 have m1:binD .add .num (iN 0) (iN c.toNat)=some (iN (0+c.toNat)):=add_N (by omega)
 rw [Nat.zero_add] at m1
 apply i207 _ _ rfl rfl
 have hs:strip (uN l) = .i .u64 l:=rfl
 rw [hs]
 simp only [s207,bin_geq,a1,a2,a3,decide_false,OX_some,jnE,WB_b,Bool.false_eq_true,if_false,c2,hix,c3,l0,m1]
 rfl
theorem v175 (l:Nat) (h:l<50):∃ v:Nat,isoCall (call dp) 175 [uN l]=some (iN v)∧v≤6∧(1≤l→2 ^ v≤2 * l):=by
 obtain ⟨v,e,h2,h3⟩:=v207 l h
 refine ⟨v,?_,h2,h3⟩
 apply i175 _ _ rfl rfl
 have hs:strip (uN l)=uN l:=rfl
 rw [hs]
 simp only [s175,WB_b,Bool.false_eq_true,if_false,e,OX_some]
 rfl
theorem shlU {v:Nat} (h:v≤6):binD .shl .num (.i .u64 1) (iN v)=some (uN (2 ^ v)):=by
 have h2:2 ^ v≤2 ^ 6:=Nat.pow_le_pow_right (by omega) h
 have hm:min v 64=v:=by omega
 simp only [binD,shOp,iN]
 rw [if_neg (by omega)]
 simp only [IntKind.bits,Int.toNat_natCast,hm,Int.one_mul]
 have e:(2:Int) ^ v=((2 ^ v:Nat):Int):=by simp
 rw [e]
 generalize 2 ^ v=m at *
 rw [wrapUN (by omega)];rfl
theorem v217 (l:Nat) (h:l<50) (h1:1≤l):∃ m:Nat,isoCall (call dp) 217 [iN l]=some (uN m)∧1≤m∧m≤2 * l:=by
 obtain ⟨v,e,h2,h3⟩:=v175 l h
 refine ⟨2 ^ v,?_,Nat.one_le_two_pow,h3 h1⟩
 apply i217 _ _ rfl rfl
 have hs:strip (iN l)=iN l:=rfl
 rw [hs]
 simp only [s217,cv1 (l:=l) (by omega),OX_some,e,shlU h2]
 rfl
theorem shlX (a s:Nat):∃ y:Nat,binD .shl .num (uN a) (.i .u64 s)=some (uN y):=by
 simp only [binD,shOp,uN]
 rw [if_neg (by omega)]
 obtain ⟨y,_,e⟩:=wrapU ((a:Int) * 2 ^ min (s:Int).toNat 64)
 exact ⟨y,by simp only [IntKind.bits];rw [e]⟩
theorem shrX (a s:Nat):∃ y:Nat,binD .shr .num (uN a) (.i .u64 s)=some (uN y):=by
 simp only [binD,shOp,uN]
 rw [if_neg (by omega)]
 refine ⟨a / 2 ^ min (s:Int).toNat 64,?_⟩
 have e:(2:Int) ^ min (s:Int).toNat 64=((2 ^ min (s:Int).toNat 64:Nat):Int):=by simp
 simp only [IntKind.bits]
 rw [e,←Int.ofNat_fdiv]
theorem xorX (a b:Nat):∃ y:Nat,y<18446744073709551616∧binD .xor .num (uN a) (uN b)=some (uN y):=by
 simp only [binD,intOp,uN,if_true]
 obtain ⟨y,h,e⟩:=wrapU ((BitVec.ofInt IntKind.u64.bits a ^^^ BitVec.ofInt IntKind.u64.bits b).toNat:Int)
 exact ⟨y,h,by rw [e]⟩
theorem andX (a b:Nat) (hb:b<18446744073709551616):∃ y:Nat,y≤b∧binD .and .num (uN a) (uN b)=some (uN y):=by
 simp only [binD,intOp,uN,if_true]
 have h:(BitVec.ofInt 64 (a:Int) &&& BitVec.ofInt 64 (b:Int)).toNat≤b:=by
  have e:(BitVec.ofInt 64 (b:Int)).toNat=b:=by simp;omega
  rw [BitVec.toNat_and,e]
  exact Nat.and_le_right
 refine ⟨_,h,?_⟩
 have:(BitVec.ofInt 64 (a:Int) &&& BitVec.ofInt 64 (b:Int)).toNat<18446744073709551616:=by omega
 exact congrArg (fun z=>some (D.i .u64 z)) (wrapUN this)
def xB (x:Nat):Ent:=.box [uN x]
theorem sget_xB {S:Store} {id:Nat} (d:Array Row) (k:Nat) (h:id<S.length):sget (put (xB k::S) id d) S.length=some (xB k):=by
 rw [sget_put_ne _ (by omega)];simp
theorem ld_xB {S:Store} {id:Nat} (d:Array Row) (k:Nat) (h:id<S.length):ldD (put (xB k::S) id d) 1 false (.bx S.length 0)=some (uN k):=by
 simp only [ldD_bx,sget_xB d k h];rfl
theorem st_xB {S:Store} {id:Nat} (d:Array Row) (k m:Nat) (h:id<S.length):stD (put (xB k::S) id d) 1 false (.bx S.length 0) (uN m)=some (put (xB m::S) id d):=by
 simp only [stD_bx,sget_xB d k h]
 have:stE (some (xB k)) (put (xB k::S) id d) S.length 1 false 0 (uN m)=some (sset (put (xB k::S) id d) S.length (xB m)):=rfl
 rw [this,put_push _ _ h,put_push _ _ h]
 simp only [sset,put_len,if_true]
theorem v218 {S:Store} {id:Nat} (d:Array Row) (x:Nat) (hid:id<S.length):∃ y:Nat,y<18446744073709551616∧call dp 218 [.bx S.length 0] (put (xB x::S) id d)=some (uN y,put (xB y::S) id d):=by
 obtain ⟨r,S',e,y,rfl,rfl,hy⟩:=f218 (.bx S.length 0) (put (xB x::S) id d) (fun r S'=>∃ y:Nat,r=uN y∧S'=put (xB y::S) id d∧y<18446744073709551616) (by
  have hnil:nilckD (.bx S.length 0)=some (.bx S.length 0):=rfl
  obtain ⟨y1,e1⟩:=shlX x 13
  obtain ⟨y2,_,e2⟩:=xorX x y1
  obtain ⟨y3,e3⟩:=shrX y2 7
  obtain ⟨y4,_,e4⟩:=xorX y2 y3
  obtain ⟨y5,e5⟩:=shlX y4 17
  obtain ⟨y6,h6,e6⟩:=xorX y4 y5
  simp only [Int.cast_ofNat_Int] at e1 e3 e5
  simp only [s218,hnil,OX_some,ld_xB d _ hid,st_xB d _ _ hid,e1,e2,e3,e4,e5,e6]
  exact ⟨y6,rfl,rfl,h6⟩)
 exact ⟨y,hy,e⟩
theorem v200 {S:Store} {id n:Nat} {d:Array Row} (a b:Nat) (hid:id<S.length) (hn:d.size=n) (hab:a<b) (hb:b≤n) (h9:n≤49) :
  ∃ L d',call dp 200 [arN id n,iN a,iN b,cmpF] (put S id d)=some (.tup [],put (L++S) id d')∧Go.Sort.PermIn a b d d':=by
 obtain ⟨r,S',e,rfl,L,d',rfl,hp⟩:=f200 (arN id n) (iN a) (iN b) cmpF (put S id d) (fun r S'=>r = .tup []∧∃ L d',S'=put (L++S) id d'∧Go.Sort.PermIn a b d d') (by
  have m1:binD .sub .num (iN b) (iN a)=some (iN (b-a)):=sub_N (by omega) (by omega)
  by_cases h8:8≤b-a
  case neg=>
   simp only [s200,m1,l8,OX_some,geq_N,h8,decide_false,WB_b,Bool.false_eq_true,if_false]
   exact ⟨trivial,[],d,rfl,Go.Sort.permIn_refl _ _ _⟩
  obtain ⟨m,e217,hm1,hm2⟩:=v217 (b-a) (by omega) (by omega)
  have m2:binD .quo .num (iN (b-a)) (iN 4)=some (iN ((b-a) / 4)):=quo_N (by omega) (by omega)
  have m3:binD .mul .num (iN ((b-a) / 4)) (iN 2)=some (iN ((b-a) / 4 * 2)):=mul_N (by omega)
  have m4:binD .add .num (iN a) (iN ((b-a) / 4 * 2))=some (iN (a+(b-a) / 4 * 2)):=add_N (by omega)
  have m5:binD .sub .num (iN (a+(b-a) / 4 * 2)) (iN 1)=some (iN (a+(b-a) / 4 * 2-1)):=sub_N (by omega) (by omega)
  have m6:binD .add .num (iN (a+(b-a) / 4 * 2)) (iN 1)=some (iN (a+(b-a) / 4 * 2+1)):=add_N (by omega)
  have hal:Ent.box [.i .u64 0]::put S id d=put (xB 0::S) id d:=(put_push d _ hid).symm
  have m7:binD .sub .num (uN m) (.i .u64 1)=some (uN (m-1)):=by
   simp only [uN,bin_sub]
   have e:(m:Int)-1=((m-1:Nat):Int):=by omega
   rw [e,wrapUN (by omega)]
  simp only [s200,m1,l1,l2,l4,l8,OX_some,geq_N,h8,decide_true,WB_b,if_true,cv1 (l:=b-a) (by omega),al_eq,put_len,hal,st_xB d 0 _ hid,e217,m2,m3,m4,m5]
  let J:Nat→List D→Store→Prop:=fun q fr S'=>∃ idx x d' x35,q=a+(b-a) / 4 * 2+2-idx∧a+(b-a) / 4 * 2-1≤idx∧Go.Sort.PermIn a b d d'∧S'=put (xB x::S) id d' ∧
   fr=mkf 67 [(0,arN id n),(1,iN a),(8,iN (b-a)),(9,.bx S.length 0),(10,uN m),(11,iN idx),(35,x35)]
  refine W_loop J ?_ (a+(b-a) / 4 * 2+2-(a+(b-a) / 4 * 2-1)) _ _ ⟨a+(b-a) / 4 * 2-1,b-a,d,_,rfl,by omega,Go.Sort.permIn_refl _ _ _,rfl,rfl⟩
  rintro q fr S' ⟨idx,x,d',x35,rfl,hlo,hp,rfl,rfl⟩
  rw [←wp_W,e200_0]
  have hn':d'.size=n:=hp.1.trans hn
  by_cases hlt:idx≤a+(b-a) / 4 * 2+1
  ·obtain ⟨y,_,e218⟩:=v218 d' x hid
   obtain ⟨z,hz,eand⟩:=andX y (m-1) (by omega)
   have hid':id<(xB y::S).length:=by simp;omega
   have c1:convD .i64 (uN z)=some (iN z):=cv3 (k:=.u64) (l:=z) (by omega)
   have m9:binD .add .num (iN idx) (iN 1)=some (iN (idx+1)):=add_N (by omega)
   by_cases hz2:b-a≤z
   ·have r0:binD .sub .num (iN z) (iN (b-a))=some (iN (z-(b-a))):=sub_N (by omega) (by omega)
    have r1:binD .add .num (iN a) (iN (z-(b-a)))=some (iN (a+(z-(b-a)))):=add_N (by omega)
    have i0:=ia_N (id:=id) (n:=n) (k:=a+(z-(b-a))) (by omega)
    have i1:=ia_N (id:=id) (n:=n) (k:=idx) (by omega)
    have d0:=ld_N (d:=d') (k:=a+(z-(b-a))) hid' (by omega)
    have d1:=ld_N (d:=d') (k:=idx) hid' (by omega)
    have s1:=st_N (d:=d') (k:=idx) d'[a+(z-(b-a))]! hid' (by omega)
    have s2:=st_N (d:=d'.setIfInBounds idx d'[a+(z-(b-a))]!) (k:=a+(z-(b-a))) d'[idx]! hid' (by simp;omega)
    simp only [s200_0,l1,l2,l4,m2,m3,m4,m6,OX_some,leq_N,hlt,decide_true,WB_b,if_true,e218,m7,eand,c1,geq_N,hz2,jnE,r0,r1,i0,i1,d0,d1,s1,s2,m9,Qseq_normal]
    exact ⟨a+(b-a) / 4 * 2+2-(idx+1),by omega,idx+1,y,Go.Sort.swp d' idx (a+(z-(b-a))),_,rfl,by omega,Go.Sort.permIn_trans _ _ _ _ _ hp (Go.Sort.swp_permIn d' a b idx (a+(z-(b-a))) (by omega) (by omega) (by omega) (by omega) (by omega)),rfl,rfl⟩
   ·have hz3:z<b-a:=by omega
    have r1:binD .add .num (iN a) (iN z)=some (iN (a+z)):=add_N (by omega)
    have i0:=ia_N (id:=id) (n:=n) (k:=a+z) (by omega)
    have i1:=ia_N (id:=id) (n:=n) (k:=idx) (by omega)
    have d0:=ld_N (d:=d') (k:=a+z) hid' (by omega)
    have d1:=ld_N (d:=d') (k:=idx) hid' (by omega)
    have s1:=st_N (d:=d') (k:=idx) d'[a+z]! hid' (by omega)
    have s2:=st_N (d:=d'.setIfInBounds idx d'[a+z]!) (k:=a+z) d'[idx]! hid' (by simp;omega)
    simp only [s200_0,l1,l2,l4,m2,m3,m4,m6,OX_some,leq_N,hlt,decide_true,WB_b,if_true,e218,m7,eand,c1,geq_N,hz2,decide_false,Bool.false_eq_true,if_false,jnE,r1,i0,i1,d0,d1,s1,s2,m9,Qseq_normal]
    exact ⟨a+(b-a) / 4 * 2+2-(idx+1),by omega,idx+1,y,Go.Sort.swp d' idx (a+z),_,rfl,by omega,Go.Sort.permIn_trans _ _ _ _ _ hp (Go.Sort.swp_permIn d' a b idx (a+z) (by omega) (by omega) (by omega) (by omega) (by omega)),rfl,rfl⟩
  ·simp only [s200_0,l1,l2,l4,m2,m3,m4,m6,OX_some,leq_N,hlt,decide_false,WB_b,Bool.false_eq_true,if_false,Qseq_exit,Qblk_same,FinK_normal,FinK_nil]
   exact ⟨trivial,[_],d',rfl,hp⟩)
 exact ⟨L,d',e,hp⟩
end Go.Proofs.YtjlmeikcfdanmaaGreatDoor.DE.V

namespace Go.Proofs.YtjlmeikcfdanmaaGreatDoor.DE.V
open Go
set_option maxRecDepth 20000
theorem jnI {α:Type} {K:α} {X:α→Prop} (P:α→Prop) (hX:∀ k,P k→X k) (hK:P K):jn K X:=hX K hK
theorem condI (wb wp:Bool) (hh:Nat) {K:D→Prop} (h:K (.b (wb&&wp&&decide (hh=1)))):OX (gsel (.b wb) true (some (.b wp))) fun x41=>OX (pickD (.b wb) x41 (.b false)) fun x42=>OX (gsel x42 true (some (iN hh))) fun x43=>
  OX (gsel x42 true (binD .eql .num x43 (iN 1))) fun x44=>OX (pickD x42 x44 (.b false)) fun x45=>K x45:=by
 cases wb <;> cases wp <;> simpa only [gsel_tt,gsel_ft,pick_t,pick_f,OX_some,eql_N,Bool.and_true,Bool.and_false,Bool.true_and,Bool.false_and] using h
theorem condJ {S:Store} {id n:Nat} {d:Array Row} (a pv:Nat) (hid:id<S.length) (hn:d.size=n) (ha:a≤n) (hp:pv<n) (h9:n≤1000000) {K:D→Prop} (h:K (.b (decide (0<a) && !ltR d[a-1]! d[pv]!))) :
  OX (binD .gtr .num (iN a) (iN 0)) fun x59=>OX (gsel x59 true (some cmpF)) fun x60=>OX (gsel x59 true (some (arN id n))) fun x61=>OX (gsel x59 true (some (iN a))) fun x62=>OX (gsel x59 true (binD .sub .num x62 (iN 1))) fun x63=>
  OX (gsel x59 true (iaD 2 x61 x63)) fun x64=>OX (gsel x59 true (ldD (put S id d) 2 true x64)) fun x65=>OX (gsel x59 true (some (arN id n))) fun x66=>OX (gsel x59 true (some (iN pv))) fun x67=>OX (gsel x59 true (iaD 2 x66 x67)) fun x68=>
  OX (gsel x59 true (ldD (put S id d) 2 true x68)) fun x69=>OX (gsel x59 true (match fnD x60 with | some p=>isoCall (call dp) p.1 ([x65,x69]++p.2) | none=>none)) fun x70=>OX (gsel x59 true (binD .lss .num x70 (iN 0))) fun x71=>
  OX (gsel x59 true (unD .not x71)) fun x72=>OX (pickD x59 x72 (.b false)) fun x73=>K x73:=by
 by_cases ha0:0<a
 ·have i0:=ia_N (id:=id) (n:=n) (k:=a-1) (by omega)
  have i1:=ia_N (id:=id) (n:=n) (k:=pv) (by omega)
  have d0:=ld_N (d:=d) (k:=a-1) hid (by omega)
  have d1:=ld_N (d:=d) (k:=pv) hid (by omega)
  have c1:=v123 d[a-1]! d[pv]!
  have m1:binD .sub .num (iN a) (iN 1)=some (iN (a-1)):=sub_N (by omega) (by omega)
  simp only [ha0,decide_true,Bool.true_and] at h
  simp only [gtr_N,ha0,decide_true,OX_some,gsel_tt,m1,i0,i1,d0,d1,cmpF,fnD_fn,List.append_nil,c1,lss_c,un_not,pick_t]
  exact h
 ·simp only [ha0,decide_false,Bool.false_and] at h
  simp only [gtr_N,ha0,decide_false,OX_some,gsel_ft,gsel_skip,pick_f]
  exact h
theorem below_perm {a b:Nat} {d d':Array Row} (hb:b≤d.size) (h:Go.Sort.Below ltR a b d) (hP:Go.Sort.PermIn a b d d'):Go.Sort.Below ltR a b d':=
 Go.Sort.Below.permA Go.Sort.permIn_all hb h hP
theorem v174 {id n:Nat} (h9:n≤49):∀ (m:Nat) {S:Store} {d:Array Row} (a b lim:Nat),id<S.length→b-a≤m→d.size=n→a≤b→b≤n→lim≤1000→Go.Sort.Below ltR a b d →
  ∃ L d',call dp 174 [arN id n,iN a,iN b,iN lim,cmpF] (put S id d)=some (.tup [],put (L++S) id d')∧Go.Sort.PermIn a b d d'∧Go.Sort.SortedIn ltR a b d':=by
 intro m
 induction m using Nat.strongRecOn with
 | _ m ih=>
 intro S d a b lim hid hm hn hab hb hlim hB
 obtain ⟨r,S',e,rfl,L,d',rfl,hp,hs⟩:=f174 (arN id n) (iN a) (iN b) (iN lim) cmpF (put S id d) (fun r S'=>r = .tup []∧∃ L d',S'=put (L++S) id d'∧Go.Sort.PermIn a b d d'∧Go.Sort.SortedIn ltR a b d') (by
  simp only [s174]
  let J:Nat→List D→Store→Prop:=fun q fr S'=>∃ L a' b' d' lim' wb wp x12 x13 x80,q=b'-a'∧b'-a'≤m∧a'≤b'∧b'≤n∧lim'≤1000∧d'.size=n∧Go.Sort.Below ltR a' b' d' ∧
   (∀ R,Go.Sort.PermIn a' b' d' R→Go.Sort.SortedIn ltR a' b' R→Go.Sort.PermIn a b d R∧Go.Sort.SortedIn ltR a b R)∧S'=put (L++S) id d' ∧
   fr=mkf 148 [(0,arN id n),(1,iN a'),(2,iN b'),(3,iN lim'),(4,cmpF),(10,.b wb),(11,.b wp),(12,x12),(13,x13),(80,x80)]
  refine W_loop J ?_ (b-a) _ _ ⟨[],a,b,d,lim,true,true,_,_,_,rfl,hm,hab,hb,hlim,hn,hB,fun R h1 h2=>⟨h1,h2⟩,rfl,rfl⟩
  rintro q fr S' ⟨L,a',b',d',lim',wb,wp,x12,x13,x80,rfl,hm',hab',hb',hlim',hn',hB',hcl,rfl,rfl⟩
  rw [←wp_W,e174_0]
  have hidL:∀ L:List Ent,id<(L++S).length:=fun L=>by simp;omega
  have m1:binD .sub .num (iN b') (iN a')=some (iN (b'-a')):=sub_N (by omega) (by omega)
  by_cases h12:b'-a'≤12
  ·have e198:=v198 (S:=L++S) (d:=d') a' b' (hidL L) hn' hab' hb' (by omega)
   obtain ⟨hp,hs⟩:=Go.Sort.insertionSort_holds swo d' a' b' hab' (by omega)
   simp only [s174_0,m1,l12,OX_some,leq_N,h12,decide_true,WB_b,if_true,e198,Qseq_ret,Qblk_ret,FinK_nil]
   exact ⟨trivial,L,_,rfl,hcl _ hp hs⟩
  by_cases h0:lim'=0
  ·have e199:=v199 (S:=L++S) (d:=d') a' b' (hidL L) hn' (by omega) hb' (by omega)
   obtain ⟨hp,hs⟩:=Go.Sort.heapSort_holds swo d' a' b' hab' (by omega)
   simp only [s174_0,m1,l0,l12,OX_some,leq_N,h12,decide_false,WB_b,Bool.false_eq_true,if_false,eql_N,h0,decide_true,if_true,e199,Qseq_ret,Qblk_ret,FinK_nil]
   exact ⟨trivial,L,_,rfl,hcl _ hp hs⟩
  simp only [s174_0,m1,l0,l1,l2,l8,l12,OX_some,leq_N,h12,decide_false,WB_b,Bool.false_eq_true,if_false,eql_N,h0,un_not]
  refine jnI (fun k=>∀ L1 d1 lim1 x x',lim1≤1000→Go.Sort.PermIn a' b' d' d1→k (arN id n) (iN a') (iN b') (iN lim1) cmpF (.b wb) (.b wp) (iN (b'-a')) x x' x80 (put (L1++S) id d1)) ?_ ?_
  ·intro k hk
   cases wb with
   | true=>
    simp only [Bool.not_true,Bool.false_eq_true,if_false]
    exact hk L d' lim' _ _ hlim' (Go.Sort.permIn_refl _ _ _)
   | false=>
    obtain ⟨L1,d1,e200,hp⟩:=v200 (S:=L++S) (d:=d') a' b' (hidL L) hn' (by omega) hb' h9
    have m2:binD .sub .num (iN lim') (iN 1)=some (iN (lim'-1)):=sub_N (by omega) (by omega)
    simp only [Bool.not_false,if_true,e200,OX_some,m2]
    rw [←List.append_assoc]
    exact hk (L1++L) d1 (lim'-1) _ _ (by omega) hp
  intro L1 d1 lim1 x y hlim1 hp1
  have hn1:d1.size=n:=hp1.1.trans hn'
  obtain ⟨pv,h,k',e201,hpv1,hpv2⟩:=v201 (S:=L1++S) (d:=d1) a' b' (hidL L1) hn1 (by omega) hb' h9
  have x0:∀ i j:Nat,extD (.tup [iN i,iN j]) 0=some (iN i):=fun _ _=>rfl
  have x1:∀ i j:Nat,extD (.tup [iN i,iN j]) 1=some (iN j):=fun _ _=>rfl
  have xb0:∀ (i:Nat) (j:Bool),extD (.tup [iN i,.b j]) 0=some (iN i):=fun _ _=>rfl
  have xb1:∀ (i:Nat) (j:Bool),extD (.tup [iN i,.b j]) 1=some (.b j):=fun _ _=>rfl
  simp only [e201,OX_some,x0,x1,eql_N,WB_b]
  refine jnI (fun k=>∀ L2 d2 pv hh x x',Go.Sort.PermIn a' b' d' d2→a'≤pv→pv<b'→k (arN id n) (iN a') (iN b') (iN lim1) cmpF (.b wb) (.b wp) (iN (b'-a')) (iN pv) (iN hh) x x' (put (L2++S) id d2)) ?_ ?_
  ·intro k hk
   by_cases h2:h=2
   ·have e202:=v202 (S:=swB k'::(L1++S)) (d:=d1) a' b' (hidL (swB k'::L1)) hn1 (by omega) hb' (by omega)
    have q1:binD .sub .num (iN b') (iN 1)=some (iN (b'-1)):=sub_N (by omega) (by omega)
    have q2:binD .sub .num (iN pv) (iN a')=some (iN (pv-a')):=sub_N (by omega) (by omega)
    have q3:binD .sub .num (iN (b'-1)) (iN (pv-a'))=some (iN (b'-1-(pv-a'))):=sub_N (by omega) (by omega)
    simp only [h2,decide_true,if_true,e202,OX_some,q1,q2,q3]
    exact hk (swB k'::L1) _ (b'-1-(pv-a')) 1 _ _ (Go.Sort.permIn_trans _ _ _ _ _ hp1 (Go.Sort.reverseRange_holds d1 a' b' hab' (by omega))) (by omega) (by omega)
   ·simp only [h2,decide_false,Bool.false_eq_true,if_false]
    exact hk (swB k'::L1) d1 pv h _ _ hp1 hpv1 hpv2
  clear e201 hpv1 hpv2
  intro L2 d2 pv hh x y hp2 hpv1 hpv2
  have hn2:d2.size=n:=hp2.1.trans hn'
  have hB2:Go.Sort.Below ltR a' b' d2:=below_perm (by omega) hB' hp2
  have e203:=v203 (S:=L2++S) (d:=d2) a' b' (hidL L2) hn2 (by omega) hb' h9
  obtain ⟨pp,ps⟩:=Go.Sort.partialInsertionSort_holds swo d2 a' b' (by omega) (by omega) hB2
  rw [pis (by omega)] at e203 pp ps
  simp only at e203 pp ps
  generalize decide (Go.Sort.scanSorted ltR d2 b' (a'+1)=b')=c at *
  refine condI wb wp hh ?_
  refine jnI (fun k=>∀ x x',k (arN id n) (iN a') (iN b') (iN lim1) cmpF (.b wb) (.b wp) (iN (b'-a')) (iN pv) x x' (put (L2++S) id d2)) ?_ ?_
  ·intro k hk
   simp only [WB_b]
   split
   ·simp only [e203,OX_some,WB_b]
    split
    ·rename_i hc
     simp only [Qseq_ret,Qblk_ret,FinK_nil]
     exact ⟨trivial,L2,d2,rfl,hcl _ hp2 (ps hc)⟩
    ·exact hk _ _
   ·exact hk _ _
  intro x y
  refine condJ (S:=L2++S) (d:=d2) a' pv (hidL L2) hn2 (by omega) (by omega) (by omega) ?_
  simp only [WB_b]
  split
  ·rename_i hc
   simp only [Bool.and_eq_true,decide_eq_true_eq,Bool.not_eq_true'] at hc
   obtain ⟨ha0,hnl⟩:=hc
   have e204:=v204 (S:=L2++S) (d:=d2) a' b' pv (hidL L2) hn2 hpv1 hpv2 hb' (by omega)
   obtain ⟨mid,d4,hP⟩:∃ mid d4,Go.Sort.partitionEqual ltR d2 a' b' pv=(mid,d4):=⟨_,_,rfl⟩
   obtain ⟨r1,r2,r3,r4,r5⟩:=Go.Sort.round_eq swo (Go.Sort.partitionEqual_holds ltR) ha0 hpv1 hpv2 (by omega) hB2 hnl hP
   rw [hP] at e204
   simp only at e204
   simp only [e204,OX_some,Qseq_normal]
   exact ⟨b'-mid,by omega,L2,mid,b',d4,lim1,wb,wp,_,_,_,rfl,by omega,r2,hb',hlim1,r3.trans hn2,r4,fun R h1 h2=>(r5 R h1 h2).elim fun h3 h4=>hcl _ (Go.Sort.permIn_trans _ _ _ _ _ hp2 h3) h4,rfl,rfl⟩
  have e205:=v205 (S:=L2++S) (d:=d2) a' b' pv (hidL L2) hn2 hpv1 hpv2 hb' (by omega)
  obtain ⟨mid,ap,d4,hP⟩:∃ mid ap d4,Go.Sort.partition ltR d2 a' b' pv=(mid,ap,d4):=⟨_,_,_,rfl⟩
  obtain ⟨r1,r2,r3,r4,r5,r6,r7⟩:=Go.Sort.round_part swo (Go.Sort.partition_holds ltR) hpv1 hpv2 (by omega) hB2 hP
  rw [hP] at e205
  simp only at e205
  have q1:binD .sub .num (iN mid) (iN a')=some (iN (mid-a')):=sub_N (by omega) (by omega)
  have q2:binD .sub .num (iN b') (iN mid)=some (iN (b'-mid)):=sub_N (by omega) (by omega)
  have q3:binD .quo .num (iN (b'-a')) (iN 8)=some (iN ((b'-a') / 8)):=quo_N (by omega) (by omega)
  have q4:binD .add .num (iN mid) (iN 1)=some (iN (mid+1)):=add_N (by omega)
  simp only [e205,OX_some,xb0,xb1,q1,q2,q3,q4,lss_N,jnE,WB_b,geq_N]
  split
  ·obtain ⟨L4,d5,e5,hp5,hs5⟩:=ih (mid-a') (by omega) (S:=L2++S) (d:=d4) a' mid lim1 (hidL L2) (Nat.le_refl _) (r3.trans hn2) r1 (by omega) hlim1 r4
   obtain ⟨t1,t2⟩:=r6 d5 hp5 hs5
   simp only [e5,OX_some,Qseq_normal]
   rw [←List.append_assoc]
   exact ⟨b'-(mid+1),by omega,L4++L2,mid+1,b',d5,lim1,_,_,_,_,_,rfl,by omega,r2,hb',hlim1,hp5.1.trans (r3.trans hn2),t1,fun R h1 h2=>(t2 R h1 h2).elim fun h3 h4=>hcl _ (Go.Sort.permIn_trans _ _ _ _ _ hp2 h3) h4,rfl,rfl⟩
  ·obtain ⟨L4,d5,e5,hp5,hs5⟩:=ih (b'-(mid+1)) (by omega) (S:=L2++S) (d:=d4) (mid+1) b' lim1 (hidL L2) (Nat.le_refl _) (r3.trans hn2) r2 hb' hlim1 r5
   obtain ⟨t1,t2⟩:=r7 d5 hp5 hs5
   simp only [e5,OX_some,Qseq_normal]
   rw [←List.append_assoc]
   exact ⟨mid-a',by omega,L4++L2,a',mid,d5,lim1,_,_,_,_,_,rfl,by omega,r1,by omega,hlim1,hp5.1.trans (r3.trans hn2),t1,fun R h1 h2=>(t2 R h1 h2).elim fun h3 h4=>hcl _ (Go.Sort.permIn_trans _ _ _ _ _ hp2 h3) h4,rfl,rfl⟩)
 exact ⟨L,d',e,hp,hs⟩
end Go.Proofs.YtjlmeikcfdanmaaGreatDoor.DE.V

namespace Go.Proofs.YtjlmeikcfdanmaaGreatDoor.DE.V
open Go
set_option maxRecDepth 20000
def ddN (g:Nat→Row):Nat→List Row
 | 0=>[]
 | m+1=>if 0<m∧g m=g (m-1) then ddN g m else ddN g m++[g m]
theorem ddN_pos (g:Nat→Row):∀ m,0<m→0<(ddN g m).length
 | 0,h=>by omega
 | m+1,_=>by
  simp only [ddN]
  split
  ·rename_i h;exact ddN_pos g m h.1
  ·simp
theorem ddN_mem (g:Nat→Row) (r:Row):∀ m,r∈ddN g m↔∃ i,i<m∧g i=r
 | 0=>by simp [ddN]
 | m+1=>by
  have ih:=ddN_mem g r m
  simp only [ddN]
  split
  ·rename_i h
   rw [ih]
   constructor
   ·rintro ⟨i,h1,h2⟩;exact ⟨i,by omega,h2⟩
   ·rintro ⟨i,h1,h2⟩
    by_cases e:i=m
    ·subst e;exact ⟨i-1,by omega,by rw [←h.2,h2]⟩
    ·exact ⟨i,by omega,h2⟩
  ·rw [List.mem_append,ih,List.mem_singleton]
   constructor
   ·rintro (⟨i,h1,h2⟩ | h)
    ·exact ⟨i,by omega,h2⟩
    ·exact ⟨m,by omega,h.symm⟩
   ·rintro ⟨i,h1,h2⟩
    by_cases e:i=m
    ·subst e;exact .inr h2.symm
    ·exact .inl ⟨i,by omega,h2⟩
def Asc (l:List Row):Prop:=l.Pairwise fun x y=>ltR x y=true
theorem ltR_total {x y:Row} (h1:ltR x y=false) (h2:ltR y x=false):x=y:=by
 rw [ltR_false] at h1 h2
 exact Prod.ext (by omega) (by omega)
theorem ddN_asc (g:Nat→Row) (n:Nat) (hs:∀ i j,i<j→j<n→ltR (g j) (g i)=false):∀ m,m≤n→Asc (ddN g m)
 | 0,_=>List.Pairwise.nil
 | m+1,hm=>by
  have ih:=ddN_asc g n hs m (by omega)
  simp only [ddN]
  split
  ·exact ih
  ·rename_i h
   refine List.pairwise_append.2 ⟨ih,List.pairwise_singleton _ _,?_⟩
   intro x hx y hy
   rw [List.mem_singleton] at hy
   subst hy
   obtain ⟨i,hi,rfl⟩:=(ddN_mem g x m).1 hx
   cases hc:ltR (g i) (g m) with
   | true=>rfl
   | false=>
    exfalso
    have e:g i=g m:=ltR_total hc (hs i m hi (by omega))
    apply h
    refine ⟨by omega,?_⟩
    by_cases hi':i=m-1
    ·rw [←hi',e]
    ·have a1:=hs i (m-1) (by omega) (by omega)
     have a2:=hs (m-1) m (by omega) (by omega)
     rw [e] at a1
     exact ltR_total a2 a1
theorem v122 {S:Store} {id n:Nat} {d:Array Row} (hid:id<S.length) (hn:d.size=n) (h9:n≤49) :
  ∃ L d',call dp 122 [arN id n,cmpF] (put S id d)=some (.tup [],put (L++S) id d')∧Go.Sort.PermIn 0 n d d'∧Go.Sort.SortedIn ltR 0 n d':=by
 obtain ⟨r,S',e,rfl,L,d',rfl,hp,hs⟩:=f122 (arN id n) cmpF (put S id d) (fun r S'=>r = .tup []∧∃ L d',S'=put (L++S) id d'∧Go.Sort.PermIn 0 n d d'∧Go.Sort.SortedIn ltR 0 n d') (by
  obtain ⟨v,e175,hv,_⟩:=v175 n (by omega)
  obtain ⟨L,d',e174,hp,hs⟩:=v174 (id:=id) (n:=n) h9 n (S:=S) (d:=d) 0 n v hid (by omega) hn (by omega) (by omega) (by omega) (.inl rfl)
  have hl:lenD false (arN id n)=some (iN n):=rfl
  simp only [s122,hl,OX_some,cv1 (l:=n) (by omega),e175,l0,e174]
  exact ⟨trivial,L,d',rfl,hp,hs⟩)
 exact ⟨L,d',e,hp,hs⟩
theorem eq_row (r s:Row):binD .eql (.agg [.i,.i]) (.agg (eRow r)) (.agg (eRow s))=some (.b (decide (r=s))):=bin_eql_row r s
theorem splice_take:∀ (l cs:List D) (o m:Nat),m≤o→(splice cs o l).take m=cs.take m
 | [],_,_,_,_=>rfl
 | x::l,cs,o,m,h=>by
  have ft:∀ (cs:List D) (o m:Nat),m≤o→(fset cs o x).take m=cs.take m:=by
   intro cs
   induction cs with
   | nil=>intros;rfl
   | cons c cs ih=>
    intro o m h
    cases o with
    | zero=>
         have:m=0:=by omega
         subst this;rfl
    | succ o=>
     cases m with
     | zero=>rfl
     | succ m=>simp only [fset,List.take_succ_cons,ih o m (by omega)]
  rw [splice,splice_take l _ (o+1) m (by omega),ft cs o m h]
theorem chunks_take:∀ (k:Nat) (cs:List D) (l:List Row),l.length=k→cs.take (2 * k)=flatL l→chunks 2 k cs=l.map eRow
 | 0,_,l,h,_=>by have:=List.length_eq_zero_iff.1 h;subst this;rfl
 | k+1,cs,[],h,_=>by simp at h
 | k+1,cs,x::l,h,e=>by
  rw [flatL_cons] at e
  match cs,e with
  | [],e=>simp at e
  | [a],e=>rw [show 2 * (k+1)=2 * k+1+1 by omega] at e;simp at e
  | a::b::cs,e=>
   rw [show 2 * (k+1)=2 * k+1+1 by omega] at e
   simp only [List.take_succ_cons,List.cons.injEq] at e
   obtain ⟨rfl,rfl,e⟩:=e
   have ih:=chunks_take k cs l (by simpa using h) e
   simp only [chunks,List.take_succ_cons,List.take_zero,List.drop_succ_cons,List.drop_zero,ih,List.map_cons]
   rfl
theorem flat_take (d:Array Row) (l:List Row) (h:l.length≤d.size) (hg:∀ j,j<l.length→l[j]? = some d[j]!):(flat d).take (2 * l.length)=flatL l:=by
 have e:d.toList.take l.length=l:=by
  apply List.ext_getElem?
  intro j
  by_cases hj:j<l.length
  ·rw [List.getElem?_take_of_lt hj,getE (by omega),hg j hj]
  ·rw [List.getElem?_take_eq_none (by omega),List.getElem?_eq_none (by omega)]
 have ft:∀ (k:Nat) (l:List Row),k≤l.length→(flatL l).take (2 * k)=flatL (l.take k):=by
  intro k
  induction k with
  | zero=>intros;rfl
  | succ k ih=>
   intro l h
   cases l with
   | nil=>simp at h
   | cons x l=>
    rw [show 2 * (k+1)=2 * k+1+1 by omega,flatL_cons,List.take_succ_cons,List.take_succ_cons,List.take_succ_cons,flatL_cons,ih l (by simpa using h)]
 rw [flat,ft _ _ (by simpa using h),e]
theorem set_get (d:Array Row) (c i:Nat) (v:Row) (hc:c<d.size):(d.setIfInBounds c v)[i]! = if i=c then v else d[i]!:=by
 by_cases h:i=c
 ·subst h
  rw [if_pos rfl,getElem!_pos _ _ (by simpa using hc)]
  simp
 ·rw [if_neg h]
  simp only [getElem!_def,Array.getElem?_setIfInBounds]
  rw [if_neg (fun e=>h e.symm)]
theorem ia_2 {id k m j:Nat} (h:j<m):iaD 2 (.ar 2 id (k * 2) m) (iN j)=some (.bx id ((k+j) * 2)):=by
 simp only [iN,iaD]
 rw [if_pos ⟨by omega,by omega,trivial⟩]
 simp;omega
theorem neq_row (r s:Row):binD .neq (.agg [.i,.i]) (.agg (eRow r)) (.agg (eRow s))=some (.b (!decide (r=s))):=bin_neq_row r s
theorem v124 {S:Store} {id n:Nat} {d:Array Row} (hid:id<S.length) (hn:d.size=n) (h0:0<n) (h9:n≤1000000) :
  ∃ k cs S',call dp 124 [arN id n] (put S id d)=some (.ar 2 id 0 k,S')∧sget S' id=some (.box cs)∧k=(ddN (fun i=>d[i]!) n).length∧cs.take (2 * k)=flatL (ddN (fun i=>d[i]!) n):=by
 let g:Nat→Row:=fun i=>d[i]!
 have hg:∀ i,d[i]! = g i:=fun _=>rfl
 obtain ⟨r,S',e,k,cs,rfl,h1,h2,h3⟩:=f124 (arN id n) (put S id d) (fun r S'=>∃ k cs,r = .ar 2 id 0 k∧sget S' id=some (.box cs)∧k=(ddN g n).length∧cs.take (2 * k)=flatL (ddN g n)) (by
  have hl:lenD false (arN id n)=some (iN n):=rfl
  have whole:∀ S',S'=put S id d→ddN g n=(List.range n).map g→∃ k cs,arN id n = .ar 2 id 0 k∧sget S' id=some (.box cs)∧k=(ddN g n).length∧cs.take (2 * k)=flatL (ddN g n):=by
   rintro _ rfl hr
   have hlen:(ddN g n).length=n:=by rw [hr];simp
   refine ⟨n,flat d,rfl,sget_put d hid,hlen.symm,?_⟩
   have:=flat_take d (ddN g n) (by omega) (fun j hj=>by rw [hr] at hj ⊢;simp at hj;simp [hj];rfl)
   rw [hlen] at this
   exact this
  by_cases h2:n<2
  ·simp only [s124,hl,l2,OX_some,lss_N,h2,decide_true,WB_b,if_true]
   have:n=1:=by omega
   exact whole _ rfl (by subst this;rfl)
  simp only [s124,hl,l1,l2,OX_some,lss_N,h2,decide_false,WB_b,Bool.false_eq_true,if_false]
  let J:Nat→List D→Store→Prop:=fun q fr S'=>∃ k x2 x4 x5 x13 x25 x32,k+q=n∧1≤k∧ddN g k=(List.range k).map g∧S'=put S id d ∧
   fr=mkf 61 [(0,arN id n),(2,x2),(3,iN k),(4,x4),(5,x5),(13,x13),(25,x25),(32,x32)]
  refine W_loop J ?_ (n-1) _ _ ⟨1,_,_,_,_,_,_,by omega,by omega,rfl,rfl,rfl⟩
  rintro q fr S' ⟨k,x2,x4,x5,x13,x25,x32,hk,hk1,hr,rfl,rfl⟩
  rw [←wp_W,e124_1]
  by_cases hlt:k<n
  case neg=>
   have:k=n:=by omega
   subst this
   simp only [s124_1,hl,OX_some,lss_N,hlt,decide_false,WB_b,Bool.false_eq_true,if_false,Qseq_exit,Qblk_same,QS_normal,e124_r2,s124_r2,FinK_ret1]
   exact whole _ rfl hr
  have m1:binD .sub .num (iN k) (iN 1)=some (iN (k-1)):=sub_N (by omega) (by omega)
  have m2:binD .add .num (iN k) (iN 1)=some (iN (k+1)):=add_N (by omega)
  have i0:=ia_N (id:=id) (n:=n) (k:=k) (by omega)
  have i1:=ia_N (id:=id) (n:=n) (k:=k-1) (by omega)
  have d0:=ld_N (d:=d) (k:=k) hid (by omega)
  have d1:=ld_N (d:=d) (k:=k-1) hid (by omega)
  rw [hg] at d0 d1
  by_cases hdup:g k=g (k-1)
  case neg=>
   simp only [s124_1,hl,l1,OX_some,lss_N,hlt,decide_true,WB_b,if_true,i0,i1,d0,d1,m1,eq_row,hdup,decide_false,Bool.false_eq_true,if_false,s124_r1,m2,Qblk_normal,Qseq_normal]
   refine ⟨q-1,by omega,k+1,_,_,_,_,_,_,by omega,by omega,?_,rfl,rfl⟩
   rw [ddN,if_neg (by simp [hdup]),hr,List.range_succ]
   simp
  have hsl:∀ k,k<n→slcD 2 (arN id n) (some (iN k)) none=some (.ar 2 id (k * 2) (n-k)):=by
   intro k hk
   have hk':(k:Int)≤n:=by omega
   have:¬n=k:=by omega
   simp [slcD,arN,bounds,iN,hk',this]
  simp only [s124_1,hl,l1,OX_some,lss_N,hlt,decide_true,WB_b,if_true,i0,i1,d0,d1,m1,eq_row,hdup,hsl k hlt]
  let J2:Nat→List D→Store→Prop:=fun q fr S'=>∃ c j d' x2 x13 x25 x32,j+q=n-k∧1≤j∧c=(ddN g (k+j)).length∧c≤k+j-1∧d'.size=n∧(∀ i,i<c→(ddN g (k+j))[i]? = some d'[i]!)∧(∀ i,c≤i→d'[i]! = g i)∧S'=put S id d' ∧
   fr=mkf 61 [(0,arN id n),(2,x2),(3,iN c),(4,.ar 2 id (k * 2) (n-k)),(5,iN j),(13,x13),(25,x25),(32,x32)]
  have hd1:ddN g (k+1)=ddN g k:=by rw [ddN,if_pos ⟨by omega,hdup⟩]
  have hlk:(ddN g k).length=k:=by rw [hr];simp
  refine W_loop J2 ?_ (n-k-1) _ _ ⟨k,1,d,_,_,_,_,by omega,by omega,by rw [hd1,hlk],by omega,hn,?_,fun i _=>rfl,rfl,rfl⟩
  ·rintro q fr S' ⟨c,j,d',x2,x13,x25,x32,hj,hj1,hc,hcm,hn',hpre,hsuf,rfl,rfl⟩
   rw [←wp_W,e124_0]
   have hl2:lenD false (.ar 2 id (k * 2) (n-k))=some (iN (n-k)):=rfl
   have hcp:0<c:=by rw [hc];exact ddN_pos g _ (by omega)
   by_cases hlt2:j<n-k
   ·have a0:=ia_2 (id:=id) (k:=k) hlt2
    have a1:=ia_2 (id:=id) (k:=k) (m:=n-k) (j:=j-1) (by omega)
    have b0:=ld_N (d:=d') (k:=k+j) hid (by omega)
    have b1:=ld_N (d:=d') (k:=k+(j-1)) hid (by omega)
    rw [hsuf (k+j) (by omega)] at b0
    rw [hsuf (k+(j-1)) (by omega),show k+(j-1)=k+j-1 by omega] at b1
    rw [show k+(j-1)=k+j-1 by omega] at a1
    have p1:binD .sub .num (iN j) (iN 1)=some (iN (j-1)):=sub_N (by omega) (by omega)
    have p2:binD .add .num (iN j) (iN 1)=some (iN (j+1)):=add_N (by omega)
    have p3:binD .add .num (iN c) (iN 1)=some (iN (c+1)):=add_N (by omega)
    by_cases hd:g (k+j)=g (k+j-1)
    ·simp only [s124_0,hl2,l1,OX_some,lss_N,hlt2,decide_true,WB_b,if_true,a0,a1,b0,b1,p1,neq_row,hd,Bool.not_true,Bool.false_eq_true,if_false,jnE,p2,Qseq_normal]
     have he:ddN g (k+(j+1))=ddN g (k+j):=by rw [←Nat.add_assoc,ddN,if_pos ⟨by omega,hd⟩]
     exact ⟨q-1,by omega,c,j+1,d',_,_,_,_,by omega,by omega,by rw [he,hc],by omega,hn',fun i hi=>by rw [he];exact hpre i hi,hsuf,rfl,rfl⟩
    ·have a2:=ia_N (id:=id) (n:=n) (k:=c) (by omega)
     have s1:=st_N (d:=d') (k:=c) (g (k+j)) hid (by omega)
     simp only [s124_0,hl2,l1,OX_some,lss_N,hlt2,decide_true,WB_b,if_true,a0,a1,b0,b1,p1,neq_row,hd,decide_false,Bool.not_false,a2,s1,p3,jnE,p2,Qseq_normal]
     have he:ddN g (k+(j+1))=ddN g (k+j)++[g (k+j)]:=by rw [←Nat.add_assoc,ddN,if_neg (fun h=>hd h.2)]
     refine ⟨q-1,by omega,c+1,j+1,d'.setIfInBounds c (g (k+j)),_,_,_,_,by omega,by omega,by rw [he,hc];simp,by omega,by simp [hn'],?_,?_,rfl,rfl⟩
     ·intro i hi
      rw [he,set_get _ _ _ _ (by omega)]
      by_cases e:i=c
      ·rw [if_pos e,e,hc];simp
      ·rw [if_neg e,List.getElem?_append_left (by omega)];exact hpre i (by omega)
     ·intro i hi
      rw [set_get _ _ _ _ (by omega),if_neg (by omega)]
      exact hsuf i (by omega)
   ·have hjn:k+j=n:=by omega
    rw [hjn] at hc hpre
    have hcl:clrD 2 [iN 0,iN 0] (put S id d') (.ar 2 id (c * 2) (n-c))=some (sset (put S id d') id (.box (splice (flat d') (c * 2) (List.replicate (n-c) [iN 0,iN 0]).flatten))):=by
     have hfl:(flat d').length=2 * n:=by rw [flat,flatL_len];simp [hn']
     simp only [clrD,sget_put d' hid]
     rw [if_pos ⟨trivial,rfl⟩,if_pos (by omega)]
    have hs2:slcD 2 (arN id n) none (some (iN c))=some (.ar 2 id 0 c):=by
     have hk':(c:Int)≤n:=by omega
     have:¬c=0:=by omega
     simp [slcD,arN,bounds,iN,hk',this]
    simp only [s124_0,hl2,OX_some,lss_N,hlt2,decide_false,WB_b,Bool.false_eq_true,if_false,Qseq_exit,Qblk_same,QS_normal,e124_r0,s124_r0,l0,hsl c (by omega),hcl,hs2,Qblk_ret,QS_ret,Qseq_ret,FinK_ret1]
    refine ⟨c,_,rfl,sget_sset _ (by rw [put_len];exact hid),hc,?_⟩
    rw [splice_take _ _ _ _ (by omega)]
    have:=flat_take d' (ddN g n) (by omega) (fun j hj=>hpre j (by omega))
    rw [←hc] at this
    exact this
  ·intro i hi
   rw [hd1,hr]
   simp [hi]
   rfl)
 exact ⟨k,cs,S',e,h1,h2,h3⟩
end Go.Proofs.YtjlmeikcfdanmaaGreatDoor.DE.V

namespace Go.Proofs.YtjlmeikcfdanmaaGreatDoor.DE.V
open Go
set_option maxRecDepth 20000
theorem v198e (x:D) (S:Store):call dp 198 [x,iN 0,iN 0,cmpF] S=some (.tup [],S):=by
 obtain ⟨r,S',e,rfl,rfl⟩:=f198 x (iN 0) (iN 0) cmpF S (fun r S'=>r = .tup []∧S'=S) (by
  have m1:binD .add .num (iN 0) (iN 1)=some (iN (0+1)):=add_N (by omega)
  simp only [s198,l1,m1,OX_some]
  apply W_step
  rw [←wp_W,e198_1]
  simp only [s198_1,OX_some,lss_N,show (0+1<0)=False by simp,decide_false,WB_b,Bool.false_eq_true,if_false,Qseq_exit,Qblk_same,FinK_normal,FinK_nil]
  exact ⟨trivial,trivial⟩)
 exact e
theorem v122e (nl:Bool) (o:Own) (S:Store):call dp 122 [.sl 2 nl [] o,cmpF] S=some (.tup [],S):=by
 obtain ⟨v,e175,_,_⟩:=v175 0 (by omega)
 have e174:call dp 174 [.sl 2 nl [] o,iN 0,iN 0,iN v,cmpF] S=some (.tup [],S):=by
  obtain ⟨r,S',e,rfl,rfl⟩:=f174 (.sl 2 nl [] o) (iN 0) (iN 0) (iN v) cmpF S (fun r S'=>r = .tup []∧S'=S) (by
   have m1:binD .sub .num (iN 0) (iN 0)=some (iN (0-0)):=sub_N (by omega) (by omega)
   simp only [s174]
   apply W_step
   rw [←wp_W,e174_0]
   simp only [s174_0,m1,l12,OX_some,leq_N,show (0-0≤12)=True by simp,decide_true,WB_b,if_true,v198e,Qseq_ret,Qblk_ret,FinK_nil]
   exact ⟨trivial,trivial⟩)
  exact e
 obtain ⟨r,S',e,rfl,rfl⟩:=f122 (.sl 2 nl [] o) cmpF S (fun r S'=>r = .tup []∧S'=S) (by
  have hl:lenD false (.sl 2 nl [] o)=some (iN 0):=rfl
  simp only [s122,hl,OX_some,cv1 (l:=0) (by omega),e175,l0,e174]
  exact ⟨trivial,trivial⟩)
 exact e
theorem v81 (nl:Bool) (l:List Row) (hn:nl=true→l=[]) (h:l.length≤49) :
  ∃ s nl',isoCall (call dp) 81 [eRows nl l]=some (eRows nl' s)∧Asc s∧(∀ r,r∈s↔r∈l)∧(nl'=true→s=[]):=by
 let P:D→Prop:=fun r=>∃ s nl',r=eRows nl' s∧Asc s∧(∀ r,r∈s↔r∈l)∧(nl'=true→s=[])
 suffices hh:∃ r,isoCall (call dp) 81 [eRows nl l]=some r∧P r by
  obtain ⟨r,e,s,nl',rfl,h1,h2⟩:=hh
  exact ⟨s,nl',e,h1,h2⟩
 apply j81 _ _ (by simp [noRefL]) (by rintro r ⟨s,nl',rfl,_⟩;simp)
 rw [strip_eRows]
 by_cases hl:l=[]
 ·subst hl
  have key:s81 (call dp) (eRows nl []) [] (fun d _=>P (stripT d))↔OX (call dp 1049 [eRows nl []] []) fun p2=>OX (call dp 122 [p2.1,cmpF] p2.2) fun p4=>OX (call dp 124 [p2.1] p4.2) fun p6=>OX (fzD p6.1 p6.2) fun p7=>P (stripT p7.1):=Iff.rfl
  rw [key]
  obtain ⟨o,e1049⟩:∃ o,call dp 1049 [eRows nl []] []=some (.sl 2 nl [] o,[]):=by
   cases nl with
   | true=>
    obtain ⟨r,S',e,rfl,rfl⟩:=f1049 (eRows true []) [] (fun r S'=>r = .sl 2 true [] .ro∧S'=[]) (by simp [s1049])
    exact ⟨_,e⟩
   | false=>
    obtain ⟨r,S',e,rfl,rfl⟩:=f1049 (eRows false []) [] (fun r S'=>r = .sl 2 false [] .cap0∧S'=[]) (by
     have hb:binD .eql .sl (.sl 2 false [] .ro) (.sl 2 true [] .ro)=some (.b false):=rfl
     simp [s1049,appD,eRows,maxLenD,hb])
    exact ⟨_,e⟩
  have e124:call dp 124 [.sl 2 nl [] o] []=some (.sl 2 nl [] o,[]):=by
   obtain ⟨r,S',e,rfl,rfl⟩:=f124 (.sl 2 nl [] o) [] (fun r S'=>r = .sl 2 nl [] o∧S'=[]) (by simp [s124])
   exact e
  simp only [e1049,OX_some,v122e,e124,fzD]
  exact ⟨[],nl,rfl,List.Pairwise.nil,by simp,by simp⟩
 ·have hnl:nl=false:=by
   cases nl with
   | true=>exact absurd (hn rfl) hl
   | false=>rfl
  subst hnl
  have hlen:0<l.length:=List.length_pos_iff.2 hl
  have e1049:call dp 1049 [eRows false l] []=some (arN 0 l.length,put [.gone] 0 l.toArray):=by
   obtain ⟨r,S',e,rfl,rfl⟩:=f1049 (eRows false l) [] (fun r S'=>r=arN 0 l.length∧S'=put [.gone] 0 l.toArray) (by
    have hm:(l.map eRow).isEmpty=false:=by cases l <;> simp_all
    have hml:l.length≤maxLenD:=by simp [maxLenD];omega
    have hb:binD .eql .sl (.sl 2 false (l.map eRow) .ro) (.sl 2 true [] .ro)=some (.b false):=rfl
    simp [s1049,appD,eRows,hm,hml,hl,hb]
    exact ⟨rfl,rfl⟩)
   exact e
  have hid:0<([.gone]:Store).length:=by simp
  obtain ⟨L,d',e122,hp,hs⟩:=v122 (S:=[.gone]) (id:=0) (n:=l.length) (d:=l.toArray) hid (by simp) h
  have hid':0<(L++[Ent.gone]).length:=by simp
  have hsz:d'.size=l.length:=by rw [hp.1];simp
  obtain ⟨k,cs,S',e124,hg,hk,hcs⟩:=v124 (S:=L++[.gone]) (id:=0) (n:=l.length) (d:=d') hid' hsz hlen (by omega)
  let g:Nat→Row:=fun i=>d'[i]!
  change k=(ddN g l.length).length at hk
  change cs.take (2 * k)=flatL (ddN g l.length) at hcs
  have hle:2 * k≤cs.length:=by
   have:=congrArg List.length hcs
   rw [List.length_take,flatL_len,←hk] at this
   omega
  have hfz:fzD (.ar 2 0 0 k) S'=some (.sl 2 false (chunks 2 k cs) .ro,sset S' 0 .gone):=by
   simp only [fzD,hg]
   rw [if_pos (by omega)]
   rfl
  have key:s81 (call dp) (eRows false l) [] (fun d _=>P (stripT d))↔OX (call dp 1049 [eRows false l] []) fun p2=>OX (call dp 122 [p2.1,cmpF] p2.2) fun p4=>OX (call dp 124 [p2.1] p4.2) fun p6=>OX (fzD p6.1 p6.2) fun p7=>P (stripT p7.1):=Iff.rfl
  rw [key]
  simp only [e1049,OX_some,e122,e124,hfz,chunks_take k cs (ddN g l.length) hk.symm hcs]
  refine ⟨ddN g l.length,false,rfl,ddN_asc g l.length (fun i j hij hj=>hs i j (by omega) hij hj) _ (Nat.le_refl _),?_,by simp⟩
  intro r
  rw [ddN_mem]
  have hperm:d'.toList.Perm l:=by
   have:=hp.2.2
   have e1:d'.extract 0 l.length=d':=by rw [←hsz];simp
   have e2:l.toArray.extract 0 l.length=l.toArray:=by simp
   rw [e1,e2] at this
   exact this
  rw [←hperm.mem_iff]
  constructor
  ·rintro ⟨i,hi,rfl⟩
   exact List.mem_of_getElem? (getE (d:=d') (by omega))
  ·intro hr
   obtain ⟨i,hi,e⟩:=List.mem_iff_getElem.1 hr
   refine ⟨i,by simp at hi;omega,?_⟩
   have:=getE (d:=d') (k:=i) (by simpa using hi)
   rw [List.getElem?_eq_getElem hi,e] at this
   exact (Option.some.inj this).symm
end Go.Proofs.YtjlmeikcfdanmaaGreatDoor.DE.V

namespace Go.Proofs.YtjlmeikcfdanmaaGreatDoor.DE.V
open Go BT
theorem Sh_take {n:Nat} {ns:List Nd} (k:Nat) (h:Sh n ns):Sh n (ns.take k):=Sh_pre (ms:=ns.drop k) (by rwa [List.take_append_drop])
theorem lev_take {n k:Nat} {ns:List Nd} {r:Int} (h:r<k+2) (hk:k≤ns.length):lev n (ns.take k) r=lev n ns r:=by
 have:=lev_app (n:=n) (ns:=ns.take k) (ns.drop k) (r:=r) (by rw [List.length_take];omega)
 rw [List.take_append_drop] at this
 exact this.symm
theorem assoc_true {α:Type} [DecidableEq α] (x:α):∀ l:List α,assoc x (l.map fun r=>(r,true))=if x∈l then some true else none
 | []=>by simp [assoc]
 | y::l=>by
  simp only [List.map_cons,assoc,assoc_true x l,List.mem_cons]
  by_cases h:x=y <;> simp [h]
theorem seenD {α:Type} [DecidableEq α] {kk:KK} {ek:α→D} (h:KeyE kk ek) {a:α} (hk:isKey kk (ek a)=true) {S:Store} {id:Nat} {l:List α} (hS:sget S id=some (.map (eMap ek D.b (l.map fun r=>(r,true))))) :
  lkD' kk false (.b false) S (.mp id) (ek a)=some (.b (decide (a∈l))):=by
 rw [lkD'_mp h hk hS,assoc_true]
 split <;> simp [*]
theorem seenU {α:Type} [DecidableEq α] {kk:KK} {ek:α→D} (h:KeyE kk ek) {a:α} (hk:isKey kk (ek a)=true) {S:Store} {id:Nat} {l:List α} (hS:sget S id=some (.map (eMap ek D.b (l.map fun r=>(r,true))))) (ha:a ∉ l) :
  muD' kk S (.mp id) (ek a) (.b true)=some (sset S id (.map (eMap ek D.b ((l++[a]).map fun r=>(r,true))))):=by
 rw [muD'_new h hk hS (ev:=D.b) (b:=true) (by rw [assoc_true,if_neg ha])]
 simp
open Classical in
theorem v71 (nl nl':Bool) (ord:List Row) (ns:List Nd) (root:Int) (hb:Bd (ns.length+2)) :
  isoCall (call dp) 71 [eB nl nl' ord ns root]=some (.b (decide (Sh ord.length ns∧0≤root∧root<ns.length+2))):=by
 obtain ⟨c,hc⟩:∃ c,c=decide (Sh ord.length ns∧0≤root∧root<ns.length+2):=⟨_,rfl⟩
 rw [←hc]
 apply i71 _ _ (by simp [noRefL]) rfl
 simp [s71]
 let J:Nat→List D→Store→Prop:=fun q fr S=>∃ k a2 a12,k+q=ns.length∧Sh ord.length (ns.take k)∧sget S 0=some (.box [eRows nl ord,eNds nl' ns,.i .i64 root])∧sget S 1=some (.map (eMap (fun r:Nd=>.agg (eNd r)) D.b ((ns.take k).map fun r=>(r,true)))) ∧
  fr=mkf 98 [(1,.bx 0 0),(2,a2),(3,.mp 1),(9,eNds nl' ns),(10,.i .i64 ns.length),(11,.i .i64 k),(12,a12)]
 refine W_loop J ?_ ns.length _ _ ⟨0,_,_,by simp,by simp [Sh_nil],by simp,by simp [eMap],rfl⟩
 rintro q fr S ⟨k,a2,a12,hk,ho,hS0,hS1,rfl⟩
 rw [←wp_W,e71_0]
 simp [s71_0]
 split
 ·rename_i h
  obtain ⟨x,hx⟩:∃ x,ns[k]? = some x:=⟨_,List.getElem?_eq_getElem (by omega)⟩
  have ht:=take_snoc hx
  have hlt:=sget_lt hS1
  have hne:S≠[]:=by intro e;simp [e] at hlt
  have h1ne:¬1=S.length:=by omega
  have h0ne:¬0=S.length:=by omega
  have w2:IntKind.i64.wrap ((k:Int)+2)=k+2:=wrap64 ⟨by omega,by unfold Bd at hb;omega⟩
  have hok:Sh ord.length ns→okNd ord.length (ns.take k) x:=fun hs=>(Sh_snoc.1 (ht ▸ Sh_take (k+1) hs)).2
  have hok':okNd ord.length (ns.take k) x→Sh ord.length (ns.take (k+1)):=fun h=>by rw [ht];exact Sh_snoc.2 ⟨ho,h⟩
  have hl:(ns.take k).length=k:=by rw [List.length_take];omega
  have hS1':sget (Ent.box (eNd x)::S) 1=_:=sget_push hS1
  have hS0':sget (Ent.box (eNd x)::S) 0=_:=sget_push hS0
  have hseen:=seenD keyE_nd (isKey_nd x) hS1'
  by_cases hin:0≤x.2.1∧0≤x.2.2∧x.2.1<k+2∧x.2.2<k+2
  ·obtain ⟨i1,i2,i3,i4⟩:=hin
   have e1:=v77 nl nl' ord ns root x.2.1 ⟨by omega,by unfold Bd at hb;omega⟩ (by omega)
   have e2:=v77 nl nl' ord ns root x.2.2 ⟨by omega,by unfold Bd at hb;omega⟩ (by omega)
   rw [←lev_take i3 (by omega)] at e1
   rw [←lev_take i4 (by omega)] at e2
   simp only [eB] at e1 e2
   by_cases hx':okNd ord.length (ns.take k) x
   ·obtain ⟨⟨c1,c2⟩,-,c3,⟨c4,c5⟩,c6⟩:=hx'
    have hu:=seenU keyE_nd (isKey_nd x) hS1' c6
    have f1:¬x.1<0:=by omega
    have f2:¬(ord.length:Int)≤x.1:=by omega
    have f4:¬lev ord.length (ns.take k) x.2.1≤x.1:=by omega
    have f5:¬lev ord.length (ns.take k) x.2.2≤x.1:=by omega
    simp [-sset_cons,iaD_nds _ hx,w2,hS0,h0ne,i1,i2,i3,i4,e1,e2,f1,f2,c3,f4,f5,c6,hseen,hu,wrapS (show Bd k by unfold Bd at *;omega)]
    refine ⟨q-1,by omega,k+1,_,_,by omega,hok' ⟨⟨c1,c2⟩,by rw [hl];exact ⟨⟨i1,i3⟩,⟨i2,i4⟩⟩,c3,⟨c4,c5⟩,c6⟩,?_,?_,rfl⟩
    ·rw [sget_sset_ne _ (by omega)];exact hS0'
    ·have:=sget_sset (Ent.map (eMap (fun r:Nd=>.agg (eNd r)) D.b ((ns.take k++[x]).map fun r=>(r,true)))) (sget_lt hS1')
     rw [ht]
     simpa [-sset_cons] using this
   ·have hno:c=false:=by rw [hc];exact decide_eq_false fun hs=>hx' (hok hs.1)
    simp [iaD_nds _ hx,w2,hS0,h0ne,i1,i2,i3,i4,e1,e2,hseen,hno]
    intro f1 f2 f3 f4 f5 f6
    exact absurd ⟨⟨f1,f2⟩,by rw [hl];exact ⟨⟨i1,i3⟩,⟨i2,i4⟩⟩,f3,⟨f5,f6⟩,f4⟩ hx'
  ·have hno:c=false:=by rw [hc];exact decide_eq_false fun hs=>hin (by have:=(hok hs.1).2.1;rw [hl] at this;omega)
   simp [iaD_nds _ hx,w2,hS0,h0ne,hseen,hno]
   intro i1 i2 i3 i4
   exact absurd ⟨i1,i2,i3,i4⟩ hin
 ·have:ns.take k=ns:=List.take_of_length_le (by omega)
  rw [this] at ho
  simp [e71_r0,s71_r0,ho,hS0]
  rw [wrap64 ⟨by omega,by unfold Bd at hb;omega⟩]
  simp [ho] at hc
  by_cases h1:0≤root
  ·by_cases h2:root<ns.length+2
   ·simp [h1,h2,hc]
   ·simp [h1,h2,hc]
  ·simp [h1,hc]
def Pres (S S':Store):Prop:=∀ id cs,sget S id=some (.box cs)→sget S' id=some (.box cs)
theorem Pres.refl (S:Store):Pres S S:=fun _ _ h=>h
theorem Pres.trans {S S' S'':Store} (h:Pres S S') (k:Pres S' S''):Pres S S'':=fun id cs e=>k id cs (h id cs e)
theorem Pres.push (e:Ent) (S:Store):Pres S (e::S):=fun _ _ h=>sget_push h
theorem Pres.tok {S:Store} {t:Nat} {b:Bool} (c:Bool) (h:sget S t=some (.tok b)):Pres S (sset S t (.tok c)):=by
 intro id cs e
 rw [sget_sset_ne]
 ·exact e
 ·rintro rfl;rw [h] at e;cases e
def eInts (nl:Bool) (l:List Int) (o:Own):D:=.sl 1 nl (l.map fun n=>[.i .i64 n]) o
def Liv (S:Store) (nl:Bool) (n:Nat) (o:Own):Prop:=(nl=true∧n=0∧o = .ro)∨(nl=false∧∃ t,o = .tok t∧sget S t=some (.tok true))
theorem Liv.push {S:Store} {nl:Bool} {n:Nat} {o:Own} (e:Ent) (h:Liv S nl n o):Liv (e::S) nl n o:=by
 rcases h with h | ⟨h,t,ho,ht⟩
 ·exact .inl h
 ·exact .inr ⟨h,t,ho,sget_push ht⟩
theorem app_liv {k:Nat} {nl n':Bool} {xs:List (List D)} {ys:List (List D)} {o o':Own} {S:Store} (h:Liv S nl xs.length o) (hl:xs.length+ys.length≤maxLenD) (hy:ys≠[]) :
  ∃ t S',appD k false (.sl k nl xs o) (.sl k n' ys o') S=some (.sl k false (xs++ys) (.tok t),S')∧sget S' t=some (.tok true)∧Pres S S'∧(∀ id es,sget S id=some (.map es)→sget S' id=some (.map es))∧S'.length=S.length+1∧t=S.length∧∀ id e,sget S id=some e→(∀ t,o = .tok t→id≠t)→sget S' id=some e:=by
 rcases h with ⟨h1,h2,h3⟩ | ⟨h1,t,ho,ht⟩
 ·subst h1 h3
  have:xs=[]:=List.length_eq_zero_iff.1 h2
  subst this
  refine ⟨S.length,.tok true::S,?_,by simp,Pres.push _ _,fun _ _ e=>sget_push e,by simp,rfl,fun _ _ e _=>sget_push e⟩
  rw [app_nil (o:=.ro) S (by simpa using hl) (by intro t e;cases e),if_neg hy]
  rfl
 ·subst h1 ho
  refine ⟨S.length,.tok true::sset S t (.tok false),app_tok S hl ht,?_,?_,?_,by simp [sset_len],rfl,fun id e he hne=>sget_push (by rw [sget_sset_ne _ (hne t rfl)];exact he)⟩
  ·have:=sget_top (Ent.tok true) (sset S t (.tok false))
   rwa [sset_len] at this
  ·exact (Pres.tok false ht).trans (Pres.push _ _)
  ·intro id es e
   apply sget_push
   rw [sget_sset_ne]
   ·exact e
   ·rintro rfl;rw [ht] at e;cases e
theorem Her_sub {L:List T} (h:Cl L):Her (sub L):=fun _ _ _ k=>Cl_kids h _ k
theorem Cl_nodup {L:List T}:Cl L→L.Nodup:=by
 induction L using snoc_ind with
 | h0=>intro _;simp
 | h1 L t ih=>intro h;obtain ⟨a,b,_⟩:=Cl_snoc.1 h;exact nodup_snoc.2 ⟨ih a,b⟩
theorem nodup_len {α:Type} [DecidableEq α]:∀ {M L:List α},M.Nodup→(∀ x,x∈M→x∈L)→M.length≤L.length
 | [],_,_,_=>Nat.zero_le _
 | x::M,L,hn,hs=>by
  have hx:x∈L:=hs x (by simp)
  have hn':=List.nodup_cons.1 hn
  have:=nodup_len (M:=M) (L:=L.erase x) hn'.2 (fun y hy=>(List.mem_erase_of_ne (by rintro rfl;exact hn'.1 hy)).2 (hs y (List.mem_cons_of_mem _ hy)))
  rw [List.length_erase_of_mem hx] at this
  have:=List.length_pos_of_mem hx
  simp only [List.length_cons]
  omega
theorem post_in {L M:List T} {t:T} (hL:Cl L) (hM:Cl M) (hs:∀ s,s∈M→s∈L) (ht:sub L t):Cl (post t M)∧sub (post t M) t∧(∀ s,s∈post t M→s∈L)∧(post t M).length≤L.length:=by
 obtain ⟨N,e,c,st,p,_⟩:=post_spec t M hM
 rw [e]
 have hin:∀ s,s∈M++N→s∈L:=by
  intro s h
  have hk:=Cl_kids c s h
  rcases List.mem_append.1 h with h | h
  ·exact hs s h
  ·have:=p _ (Her_sub hL) ht s h
   revert hk this
   cases s with
   | leaf _=>exact fun h=>h.elim
   | node _ _ _=>exact fun _ h=>h
 exact ⟨c,st,hin,nodup_len (Cl_nodup c) hin⟩
@[simp] theorem eInts_len (nl:Bool) (l:List Int) (o:Own):lenD false (eInts nl l o)=some (.i .i64 l.length):=by simp [eInts,lenD]
end Go.Proofs.YtjlmeikcfdanmaaGreatDoor.DE.V

namespace Go.Proofs.YtjlmeikcfdanmaaGreatDoor.DE.V
open Go BT
def VB (ord:List Row) (ns:List Nd) (root:Int):Prop:=
 (OrdOk ord∧ord.length≤4096)∧ns.length≤4096∧(Sh ord.length ns∧0≤root∧root<ns.length+2)∧∃ t,Cano ns root t
theorem okNd_of {n:Nat} {ns:List Nd} {k:Nat} {x:Nd} (hx:ns[k]? = some x) (h:Sh n ns):okNd n (ns.take k) x:=
 (Sh_snoc.1 (take_snoc hx ▸ Sh_take (k+1) h)).2
end Go.Proofs.YtjlmeikcfdanmaaGreatDoor.DE.V

namespace Go.Proofs.YtjlmeikcfdanmaaGreatDoor.DE.V
open Go BT
theorem sub_of {L:List T} (hL:Cl L):∀ x,x∈L→sub L x:=by
 intro x hx
 have:=Cl_kids hL x hx
 revert this hx
 cases x with
 | leaf _=>exact fun _ h=>h.elim
 | node _ _ _=>exact fun h _=>h
def Keep (p:Nat→Prop) (S S':Store):Prop:=∀ id e,¬p id→sget S id=some e→sget S' id=some e
theorem Keep.push (p:Nat→Prop) (e:Ent) (S:Store):Keep p S (e::S):=fun _ _ _ h=>sget_push h
theorem Keep.sset {p:Nat→Prop} {S:Store} (id:Nat) (x:Ent) (h:p id):Keep p S (sset S id x):=fun j e hj k=>by
 rw [sget_sset_ne]
 ·exact k
 ·rintro rfl;exact hj h
theorem Keep.trans {p:Nat→Prop} {S S' S'':Store} (h:Keep p S S') (k:Keep p S' S''):Keep p S S'':=fun id e hp he=>k id e hp (h id e hp he)
noncomputable def numM (L M:List T):List (Int × Int):=(0,0)::(1,1)::M.map fun s=>(code L s,code M s)
def eI (n:Int):D:=.i .i64 n
def NumI (nl':Bool) (q r:D) (L:List T) (i1 i2 i3 i4 im:Nat) (M:List T) (S:Store):Prop:=
 sget S i1=some (.box [.mp im])∧sget S im=some (.map (eMap eI eI (numM L M)))∧sget S i2=some (.box [eNds nl' (nds L)]) ∧
 sget S i3=some (.box [.fn 115 [.bx i1 0,.bx i2 0,.bx i3 0,.bx i4 0]])∧∃ n o,sget S i4=some (.box [q,.sl 3 n ((nds M).map eNd) o,r])∧Liv S n M.length o
def PresB (p:Nat) (S S':Store):Prop:=∀ id cs,id≠p→sget S id=some (.box cs)→sget S' id=some (.box cs)
theorem PresB.trans {p:Nat} {S S' S'':Store} (h:PresB p S S') (k:PresB p S' S''):PresB p S S'':=fun id cs hp e=>k id cs hp (h id cs hp e)
theorem PresB.push (p:Nat) (e:Ent) (S:Store):PresB p S (e::S):=fun _ _ _ h=>sget_push h
theorem PresB.refl (p:Nat) (S:Store):PresB p S S:=fun _ _ _ h=>h
theorem Pres.B {S S':Store} (p:Nat) (h:Pres S S'):PresB p S S':=fun id cs _ e=>h id cs e
theorem assoc_code {L:List T} {M:List T} (hM:∀ s,s∈M→sub L s) {t:T} (ht:sub L t) (f:T→Int):∀ (h:∀ v l h,t = .node v l h→True),assoc (code L t) (M.map fun s=>(code L s,f s))=if t∈M then some (f t) else none:=by
 intro _
 induction M with
 | nil=>simp [assoc]
 | cons s M ih=>
  simp only [List.map_cons,assoc]
  have ih:=ih (fun s hs=>hM s (List.mem_cons_of_mem _ hs))
  by_cases e:t=s
  ·subst e;simp
  ·have:code L t≠code L s:=fun h=>e (code_inj ht (hM s (by simp)) h)
   simp [this,ih,e]
theorem keyE_eI:KeyE (.one .i) eI:=keyE_i
theorem deq_i (n:Int):deq (.i .i64 n) (.i .i64 n)=true:=by simp [deq]
theorem deq_fn4 (a b c d:Nat):deq (.fn 115 [.bx a 0,.bx b 0,.bx c 0,.bx d 0]) (.fn 115 [.bx a 0,.bx b 0,.bx c 0,.bx d 0])=true:=by simp [deq,deqL]
theorem NumI_keep {nl':Bool} {q r:D} {L:List T} {i1 i2 i3 i4 im:Nat} {M:List T} {S S':Store} {p:Nat→Prop} (h:NumI nl' q r L i1 i2 i3 i4 im M S) (hk:Keep p S S')
  (p1:¬p i1) (p2:¬p i2) (p3:¬p i3) (p4:¬p i4) (pm:¬p im) (pt:∀ t,p t→sget S t≠some (.tok true)):NumI nl' q r L i1 i2 i3 i4 im M S':=by
 obtain ⟨a,b,c,d,n,o,e,l⟩:=h
 refine ⟨hk _ _ p1 a,hk _ _ pm b,hk _ _ p2 c,hk _ _ p3 d,n,o,hk _ _ p4 e,?_⟩
 rcases l with l | ⟨l1,t,l2,l3⟩
 ·exact .inl l
 ·exact .inr ⟨l1,t,l2,hk _ _ (fun k=>pt t k l3) l3⟩
theorem numM_snoc {L M:List T} {t:T} {v:Nat} {l h:T} (hM:∀ s,s∈M→sub M s) (ht:T.node v l h=t) (hn:t ∉ M):numM L (M++[t])=numM L M++[(code L t,(M.length:Int)+2)]:=by
 subst ht
 simp only [numM,List.map_append,List.cons_append,List.map_cons,List.map_nil]
 congr 3
 ·apply List.map_congr_left
  intro s hs
  rw [code_app _ (hM s hs)]
 ·simp only [code]
  rw [pos_new [] hn]
theorem v115 (nl':Bool) (q r:D) {L:List T} (hc:Cl L) (hb:L.length≤1000000) (i1 i2 i3 i4 im:Nat) (h41:i4≠i1) (h42:i4≠i2) (h43:i4≠i3):∀ (t:T) (M:List T) (S:Store),sub L t→Cl M→(∀ s,s∈M→s∈L)→NumI nl' q r L i1 i2 i3 i4 im M S →
  ∃ S',call dp 115 [.i .i64 (code L t),.bx i1 0,.bx i2 0,.bx i3 0,.bx i4 0] S=some (.i .i64 (code (post t M) t),S')∧NumI nl' q r L i1 i2 i3 i4 im (post t M) S'∧PresB i4 S S':=by
 intro t
 induction t with
 | leaf b=>
  intro M S ht hM hML hI
  let P:D→Store→Prop:=fun r' S'=>r' = .i .i64 (code M (.leaf b))∧S'=S
  obtain ⟨r',S',e,rfl,rfl⟩:=f115 (.i .i64 (code L (.leaf b))) (.bx i1 0) (.bx i2 0) (.bx i3 0) (.bx i4 0) S P (by
   simp [s115,hI.1]
   have:=lkD'_mp keyE_eI (a:=code L (.leaf b)) rfl hI.2.1 true (.i .i64 0)
   rw [show D.i .i64 (code L (.leaf b))=eI (code L (.leaf b)) from rfl,this]
   cases b <;> simp [numM,assoc,code,eI] <;> exact ⟨rfl,rfl⟩)
  exact ⟨S',e,hI,PresB.refl _ _⟩
 | node v l h ihl ihh=>
  intro M S ht hM hML hI
  obtain ⟨kl,kh⟩:=Cl_kids hc _ ht
  have hge:=code_node_ge L v l h
  have hlt:=code_lt ht
  have hpos:(code L (.node v l h)-2).toNat=pos L (.node v l h):=by simp only [code];omega
  have hnd:=nds_get ht
  have hMs:∀ s,s∈M→sub L s:=fun s hs=>sub_of hc s (hML s hs)
  let P:D→Store→Prop:=fun r' S'=>r' = .i .i64 (code (post (.node v l h) M) (.node v l h))∧NumI nl' q r L i1 i2 i3 i4 im (post (.node v l h) M) S'∧PresB i4 S S'
  have hlook:assoc (code L (.node v l h)) (numM L M)=if T.node v l h∈M then some (code M (.node v l h)) else none:=by
   have h0:¬code L (.node v l h)=0:=by omega
   have h1:¬code L (.node v l h)=1:=by omega
   simp only [numM,assoc,h0,h1,if_false]
   exact assoc_code hMs ht _ (fun _ _ _ _=>trivial)
  obtain ⟨r',S',e,rfl,h1,h2⟩:=f115 (.i .i64 (code L (.node v l h))) (.bx i1 0) (.bx i2 0) (.bx i3 0) (.bx i4 0) S P (by
   have hlk:=lkD'_mp keyE_eI (a:=code L (.node v l h)) rfl hI.2.1 true (.i .i64 0)
   rw [hlook] at hlk
   simp only [eI] at hlk
   simp [s115,hI.1,hlk]
   by_cases hm:T.node v l h∈M
   ·have hp:post (.node v l h) M=M:=by rw [post,if_pos hm]
    simp [hm]
    exact ⟨by rw [hp];rfl,by rw [hp];exact hI,PresB.refl _ _⟩
   ·simp [hm,hI.2.2.1,hI.2.2.2.1]
    rw [wrap64 ⟨by omega,by omega⟩,iaD_nds' _ (by omega) (by rw [hpos];exact hnd)]
    obtain ⟨c1,s1,m1,z1⟩:=post_in hc hM hML kl
    obtain ⟨c2,s2,m2,z2⟩:=post_in hc c1 m1 kh
    have hp:post (.node v l h) M=post h (post l M)++[.node v l h]:=by rw [post,if_neg hm]
    have hpi:=post_in hc hM hML ht
    rw [hp] at hpi
    obtain ⟨N2,e2,_⟩:=post_spec h (post l M) c1
    have hcode:code (post h (post l M)) l=code (post l M) l:=by rw [e2,code_app _ s1]
    have hz:(post h (post l M)).length+1≤L.length:=by simpa using hpi.2.2.2
    have hnm:T.node v l h ∉ post h (post l M):=(Cl_snoc.1 hpi.1).2.1
    have g1:=sget_lt hI.1
    have g2:=sget_lt hI.2.2.1
    have g3:=sget_lt hI.2.2.2.1
    have gm:=sget_lt hI.2.1
    have g4:i4<S.length:=by obtain ⟨_,_,_,_,_,_,e,_⟩:=hI;exact sget_lt e
    have hm1:im≠i4:=by rintro rfl;obtain ⟨_,b,_,_,_,_,e,_⟩:=hI;rw [b] at e;cases e
    have hI1:=NumI_keep hI (Keep.push (fun _=>False) (.box (eNd (nd L (.node v l h)))) S) id id id id id (fun _ k=>k.elim)
    obtain ⟨S1,q1,I1,P1⟩:=ihl M _ kl hM hML hI1
    obtain ⟨S2,q2,I2,P2⟩:=ihh (post l M) S1 kh c1 m1 I1
    have b0:sget (Ent.box (eNd (nd L (.node v l h)))::S) S.length=some (.box (eNd (nd L (.node v l h)))):=by simp
    have b1:=P1 _ _ (by omega) b0
    have b2:=P2 _ _ (by omega) b1
    have hS:PresB i4 S (Ent.box (eNd (nd L (.node v l h)))::S):=PresB.push _ _ _
    simp only [OX_some,ldD_el_nd,cellsK_nd,Option.bind_some,splice_nd]
    simp only [nd] at b0 b1 b2 hI1 q1 P1 hS ⊢
    generalize Ent.box (eNd ((v:Int),code L l,code L h))::S=Sa at *
    simp only [b0,hI1.2.2.2.1,ldE_box,rdK_one,nd_1,nd_2,List.getElem?_cons_zero,OX_some,fnD_fn,q1,I1.2.2.2.1,deq_fn4,true_and,b1,deq_i,q2,b2]
    simp only [eNd,stE3_1,isCell_i,OX_some]
    have hlt2:=sget_lt b2
    have b3:sget (sset S2 S.length (.box [.i .i64 v,.i .i64 (code (post l M) l),.i .i64 (code L h)])) S.length=_:=sget_sset _ hlt2
    simp only [b3,stE3_2,isCell_i,OX_some]
    have k3:Keep (fun j=>j=S.length) S2 (sset (sset S2 S.length (.box [.i .i64 v,.i .i64 (code (post l M) l),.i .i64 (code L h)])) S.length (.box [.i .i64 v,.i .i64 (code (post l M) l),.i .i64 (code (post h (post l M)) h)])):=
     (Keep.sset (p:=fun j=>j=S.length) _ _ rfl).trans (Keep.sset (p:=fun j=>j=S.length) _ _ rfl)
    have I3:=NumI_keep I2 k3 (by omega) (by omega) (by omega) (by omega) (by omega) (by rintro _ rfl h;rw [b2] at h;cases h)
    have b4:sget (sset (sset S2 S.length (.box [.i .i64 v,.i .i64 (code (post l M) l),.i .i64 (code L h)])) S.length (.box [.i .i64 v,.i .i64 (code (post l M) l),.i .i64 (code (post h (post l M)) h)])) S.length=_:=sget_sset _ (by rw [sset_len];exact hlt2)
    generalize sset (sset S2 S.length (.box [.i .i64 v,.i .i64 (code (post l M) l),.i .i64 (code L h)])) S.length (.box [.i .i64 v,.i .i64 (code (post l M) l),.i .i64 (code (post h (post l M)) h)])=S3 at *
    have P3:PresB i4 S S3:=by
     intro id cs hid e
     exact k3 _ _ (by have:=sget_lt e;simp only;omega) (P2 _ _ hid (P1 _ _ hid (hS _ _ hid e)))
    obtain ⟨j1,jm,j2,j3,n,o,j4,jl⟩:=I3
    have hlk:((nds (post h (post l M))).map eNd).length=(post h (post l M)).length:=by rw [List.length_map,nds_len]
    obtain ⟨t',S4,q4,l4,p4,m4,z4⟩:=app_liv (k:=3) (n':=false) (xs:=(nds (post h (post l M))).map eNd) (ys:=[[.i .i64 v,.i .i64 (code (post l M) l),.i .i64 (code (post h (post l M)) h)]]) (o':=.ro) (by rw [hlk];exact jl) (by rw [hlk];simp [maxLenD];omega) (by simp)
    have j4':=p4 _ _ j4
    simp only [j4,ldE_box,rdK_one,List.getElem?_cons_succ,List.getElem?_cons_zero,OX_some,b4,rdK_lit3]
    rw [show cellsV 3 true [D.agg [.i .i64 v,.i .i64 (code (post l M) l),.i .i64 (code (post h (post l M)) h)]]=some [[.i .i64 v,.i .i64 (code (post l M) l),.i .i64 (code (post h (post l M)) h)]] from rfl]
    simp only [OX_some,q4,j4',stE3_1,isCell_sl]
    have hX:(nds (post h (post l M))).map eNd++[[D.i .i64 v,.i .i64 (code (post l M) l),.i .i64 (code (post h (post l M)) h)]]=(nds (post h (post l M)++[.node v l h])).map eNd:=by
     rw [nds_snoc hpi.1,List.map_append,←hcode];rfl
    rw [hX]
    have hlX:((nds (post h (post l M)++[.node v l h])).map eNd).length=(post h (post l M)).length+1:=by rw [List.length_map,nds_len];simp
    have a1:=j1
    have s1:sget (sset S4 i4 (.box [q,.sl 3 false ((nds (post h (post l M)++[.node v l h])).map eNd) (.tok t'),r])) i1=_:=(sget_sset_ne _ (Ne.symm h41)).trans (p4 _ _ j1)
    have s2:sget (sset S4 i4 (.box [q,.sl 3 false ((nds (post h (post l M)++[.node v l h])).map eNd) (.tok t'),r])) i2=_:=(sget_sset_ne _ (Ne.symm h42)).trans (p4 _ _ j2)
    have s3:sget (sset S4 i4 (.box [q,.sl 3 false ((nds (post h (post l M)++[.node v l h])).map eNd) (.tok t'),r])) i3=_:=(sget_sset_ne _ (Ne.symm h43)).trans (p4 _ _ j3)
    have s4:sget (sset S4 i4 (.box [q,.sl 3 false ((nds (post h (post l M)++[.node v l h])).map eNd) (.tok t'),r])) i4=_:=sget_sset _ (sget_lt j4')
    have sm:sget (sset S4 i4 (.box [q,.sl 3 false ((nds (post h (post l M)++[.node v l h])).map eNd) (.tok t'),r])) im=_:=(sget_sset_ne _ hm1).trans (m4 _ _ jm)
    have st:sget (sset S4 i4 (.box [q,.sl 3 false ((nds (post h (post l M)++[.node v l h])).map eNd) (.tok t'),r])) t'=_:=(sget_sset_ne _ (by rintro rfl;rw [j4'] at l4;cases l4)).trans l4
    have P5:PresB i4 S (sset S4 i4 (.box [q,.sl 3 false ((nds (post h (post l M)++[.node v l h])).map eNd) (.tok t'),r])):=fun id cs hid e=>(sget_sset_ne _ hid).trans (p4 _ _ (P3 _ _ hid e))
    generalize sset S4 i4 (.box [q,.sl 3 false ((nds (post h (post l M)++[.node v l h])).map eNd) (.tok t'),r])=S5 at *
    have hm2s:∀ s,s∈post h (post l M)→sub (post h (post l M)) s:=sub_of c2
    have hm2L:∀ s,s∈post h (post l M)→sub L s:=fun s hs=>sub_of hc s (m2 s hs)
    have ha:assoc (code L (.node v l h)) (numM L (post h (post l M)))=none:=by
     have h0:¬code L (.node v l h)=0:=by omega
     have h1:¬code L (.node v l h)=1:=by omega
     simp only [numM,assoc,h0,h1,if_false]
     rw [assoc_code hm2L ht _ (fun _ _ _ _=>trivial),if_neg hnm]
    have hmu:=muD'_new keyE_eI (ev:=eI) (a:=code L (.node v l h)) (b:=((post h (post l M)).length:Int)+2) rfl sm ha
    rw [←numM_snoc (v:=v) (l:=l) (h:=h) hm2s rfl hnm] at hmu
    have hs6:=sget_sset (Ent.map (eMap eI eI (numM L (post h (post l M)++[.node v l h])))) (sget_lt sm)
    have hlk6:=lkD'_mp keyE_eI (a:=code L (.node v l h)) rfl hs6 false (.i .i64 0)
    have has:assoc (code L (.node v l h)) (numM L (post h (post l M)++[.node v l h]))=some (((post h (post l M)).length:Int)+2):=by
     rw [numM_snoc (v:=v) (l:=l) (h:=h) hm2s rfl hnm,assoc_app,ha]
     simp [assoc]
    rw [has] at hlk6
    simp only [eI] at hmu hlk6
    have hi1:im≠i1:=by rintro rfl;rw [sm] at s1;cases s1
    have hi2:im≠i2:=by rintro rfl;rw [sm] at s2;cases s2
    have hi3:im≠i3:=by rintro rfl;rw [sm] at s3;cases s3
    have hit:t'≠im:=by rintro rfl;rw [sm] at st;cases st
    simp only [s1,s4,ldE_box,rdK_one,List.getElem?_cons_succ,List.getElem?_cons_zero,OX_some,lenD_sl,bin_sub,bin_add,hlX]
    rw [wrap64 (n:=((((post h (post l M)).length+1:Nat):Int)-1)) ⟨by omega,by omega⟩,wrap64 ⟨by omega,by omega⟩]
    have e9:((((post h (post l M)).length+1:Nat):Int)-1+2)=((post h (post l M)).length:Int)+2:=by omega
    rw [e9,hmu]
    simp only [OX_some,sget_sset_ne _ (Ne.symm hi1),s1,ldE_box,rdK_one,List.getElem?_cons_zero,hlk6,Option.map_some,okD_fs]
    refine ⟨?_,?_,?_⟩
    ·rw [hp]
     simp only [code]
     rw [pos_new [] hnm]
     rfl
    ·rw [hp]
     refine ⟨(sget_sset_ne _ (Ne.symm hi1)).trans s1,hs6,(sget_sset_ne _ (Ne.symm hi2)).trans s2,(sget_sset_ne _ (Ne.symm hi3)).trans s3,false,.tok t',(sget_sset_ne _ (Ne.symm hm1)).trans s4,.inr ⟨rfl,t',rfl,(sget_sset_ne _ hit).trans st⟩⟩
    ·exact fun id cs hid e=>(sget_sset_ne _ (by rintro rfl;rw [hI.2.1] at e;cases e)).trans (P5 _ _ hid e))
  exact ⟨S',e,h1,h2⟩
@[simp] theorem ldc_bx (S:Store) (k:Nat) (g:Bool) (id o:Nat):ldc S k g (.bx id o)=ldE (sget S id) k g o:=by simp only [ldc,ldD_bx]
theorem v72 (nl nl':Bool) (ord:List Row) {L:List T} (hc:Cl L) (hb:L.length≤1000000) (t:T) (ht:sub L t) (hn:nl=true→ord=[]) (ho:ord.length≤maxLenD) :
  ∃ n:Bool,(n=true→post t []=[])∧isoCall (call dp) 72 [eRows nl ord,eNds nl' (nds L),.i .i64 (code L t)]=some (eB nl n ord (nds (post t [])) (code (post t []) t)):=by
 let S0:Store:=[Ent.box [.fn 115 [.bx 4 0,.bx 0 0,.bx 5 0,.bx 2 0]],.box [.mp 3],.map [(.i .i64 0,.i .i64 0),(.i .i64 1,.i .i64 1)],.box [eRows nl ord,.sl 3 true [] .ro,.i .i64 0],.box [.sl 2 true [] .ro,.sl 3 true [] .ro,.i .i64 0],.box [eNds nl' (nds L)]]
 have hI:NumI nl' (eRows nl ord) (.i .i64 0) L 4 0 5 2 3 [] S0:=⟨rfl,rfl,rfl,rfl,true,.ro,rfl,.inl ⟨rfl,rfl,rfl⟩⟩
 obtain ⟨S1,q1,⟨I1,I2,I3,I4,n,o,I5,I6⟩,P1⟩:=v115 nl' (eRows nl ord) (.i .i64 0) hc hb 4 0 5 2 3 (by omega) (by omega) (by omega) t [] S0 ht Cl_nil (by simp) hI
 have hx3:sget S1 1=some (.box [.sl 2 true [] .ro,.sl 3 true [] .ro,.i .i64 0]):=P1 1 _ (by omega) rfl
 refine ⟨n,?_,?_⟩
 ·rcases I6 with ⟨_,h,_⟩ | ⟨h,_⟩
  ·exact fun _=>List.length_eq_zero_iff.1 h
  ·intro k;rw [k] at h;cases h
 ·apply i72 _ _ _ _ (by simp [noRefL]) (by simp)
  simp [s72,v49 nl ord hn ho,bldV,muD',isKey,isSK,muD,keq,seq1]
  change (call dp) 115 [.i .i64 (code L t),.bx 4 0,.bx 0 0,.bx 5 0,.bx 2 0] S0=_ at q1
  have q1':=q1
  simp only [S0] at q1'
  rw [q1']
  have l2:=sget_lt I5
  have l1:=sget_lt hx3
  have e1:sget (sset S1 2 (.box [eRows nl ord,.sl 3 n ((nds (post t [])).map eNd) o,.i .i64 (code (post t []) t)])) 2=_:=sget_sset _ l2
  have e2:sget (sset S1 2 (.box [eRows nl ord,.sl 3 n ((nds (post t [])).map eNd) o,.i .i64 (code (post t []) t)])) 1=_:=(sget_sset_ne _ (by omega)).trans hx3
  have e3:sget (sset (sset S1 2 (.box [eRows nl ord,.sl 3 n ((nds (post t [])).map eNd) o,.i .i64 (code (post t []) t)])) 1 (.box [eRows nl ord,.sl 3 n ((nds (post t [])).map eNd) o,.i .i64 (code (post t []) t)])) 1=_:=sget_sset _ (by rw [sset_len];exact l1)
  simp [I5,e1,e2,e3]
  rfl
end Go.Proofs.YtjlmeikcfdanmaaGreatDoor.DE.V

namespace Go.Proofs.YtjlmeikcfdanmaaGreatDoor.DE.V
open Go BT
open Classical in
theorem v33 (nl nl':Bool) (ord:List Row) (ns:List Nd) (root:Int) (hn:nl=true→ord=[]) (hb:Bd (ns.length+2)) (hb':Bd ord.length) :
  isoCall (call dp) 33 [eB nl nl' ord ns root]=some (.b (decide (VB ord ns root))):=by
 obtain ⟨c,hc⟩:∃ c,c=decide (VB ord ns root):=⟨_,rfl⟩
 rw [←hc]
 have hf:∀ P:Prop,(VB ord ns root→P)→¬P→c=false:=fun P h1 h2=>by rw [hc];exact decide_eq_false fun h=>h2 (h1 h)
 have e71:=v71 nl nl' ord ns root hb
 simp only [eB] at e71
 apply i33 _ _ (by simp [noRefL]) rfl
 simp [s33,v48 _ _ hb',e71]
 by_cases h1:OrdOk ord∧ord.length≤4096
 case neg=>
  have:=hf _ (fun h=>h.1) h1
  simp [this]
  intro q1 q2
  exact absurd ⟨q1,q2⟩ h1
 by_cases h2:ns.length≤4096
 case neg=>
  have:=hf _ (fun h=>h.2.1) h2
  simp [h1,this]
  intro q1;exact absurd (show ns.length≤4096 by omega) h2
 have f2:¬(4096:Int)<ns.length:=by omega
 by_cases h3:Sh ord.length ns∧0≤root∧root<ns.length+2
 case neg=>
  have:=hf _ (fun h=>h.2.2.1) h3
  simp [h1,f2,this]
  intro q1 q2 q3;exact absurd ⟨q1,q2,q3⟩ h3
 obtain ⟨ho,h4,h5⟩:=h3
 obtain ⟨L,hL,e,hw⟩:=Sh_trees ho
 subst e
 rw [nds_len] at *
 obtain ⟨t,ht,rfl,_⟩:=code_all hL h4 h5
 have hcan:VB ord (nds L) (code L t)↔post t []=L:=by
  rw [←Cano_iff hL ht]
  exact ⟨fun h=>h.2.2.2,fun h=>⟨h1,by rw [nds_len];exact h2,⟨ho,h4,by rw [nds_len];exact h5⟩,h⟩⟩
 have hc':c=true↔post t []=L:=by rw [hc,decide_eq_true_iff];exact hcan
 obtain ⟨n,_,e72⟩:=v72 nl nl' ord hL (by omega) t ht hn (by simp [maxLenD];omega)
 simp [h1,f2,ho,h4,h5,e72,v73 n nl' (nds (post t [])) (nds L) (by rw [nds_len];unfold Bd at *;omega)]
 obtain ⟨pc,ps,_⟩:=post_in hL Cl_nil (by simp) ht
 by_cases e:post t []=L
 ·simp [e,hc'.2 e]
 ·have hcf:c=false:=by rw [←Bool.not_eq_true,hc'];exact e
  have:¬nds (post t [])=nds L:=fun h=>e (nds_inj pc hL h)
  simp [this,hcf]
end Go.Proofs.YtjlmeikcfdanmaaGreatDoor.DE.V

namespace Go.Proofs.YtjlmeikcfdanmaaGreatDoor.DE
open Go
variable (cf:CallF) (a0 a1 a2 a3 a4 a5 a6 a7 a8 a9:D) (S:Store) (Q:QT) (Post:PT)
def s80 (cf:CallF) (a0 a1 a2 a3:D) (S:Store) (Post:PT):Prop:=
 OX (binD .eql .num a2 a3) fun x1=>WB x1
 (Post a2 S)
 (OX (bldV [.i .i64 0,.i .i64 0,.i .i64 0] [(0,1,false,a1),(1,1,false,a2),(2,1,false,a3)]) fun x2=>al [.i .i64 0,.i .i64 0,.i .i64 0] S fun x3 S4=>OX (stD S4 3 true x3 (.agg x2)) fun S6=>OX (nilckD a0) fun x7=>OX (faD 1 x7) fun x8=>OX (ldD S6 1 false x8) fun x9=>OX (binD .eql .map x9 .nilm) fun x10=>jn (fun (y12 y13 y14:D) (S15:Store)=>OX (nilckD y12) fun x16=>OX (faD 1 x16) fun x17=>OX (ldD S15 1 false x17) fun x18=>OX (ldD S15 3 true y13) fun x19=>OX (lkD' (.agg [.i,.i,.i]) true (.i .i64 0) S15 x18 x19) fun x20=>OX (extD x20 0) fun x21=>OX (extD x20 1) fun x22=>OX (unD .not x22) fun x23=>jn (fun (y25 y26 y27 y28:D) (S29:Store)=>Post y27 S29) fun k24=>WB x23
 (OX (nilckD y12) fun x30=>OX (faD 0 x30) fun x31=>OX (ldD S15 1 false x31) fun x32=>OX (lenD false x32) fun x33=>OX (binD .add .num x33 (.i .i64 2)) fun x34=>OX (nilckD y12) fun x35=>OX (faD 1 x35) fun x36=>OX (ldD S15 1 false x36) fun x37=>OX (ldD S15 3 true y13) fun x38=>OX (nilckD y12) fun x39=>OX (faD 0 x39) fun x40=>OX (ldD S15 1 false x40) fun x41=>OX (ldD S15 3 true y13) fun x42=>OX (cellsV 3 true [x42]) fun x43=>OX (appD 3 false x41 (.sl 3 false x43 .ro) S15) fun p45=>OX (ldD p45.2 1 false x36) fun x46=>deq x46 x37=true ∧
 (OX (ldD p45.2 3 true y13) fun x47=>deq x47 x38=true ∧
 (OX (nilckD y12) fun x48=>OX (faD 0 x48) fun x49=>OX (stD p45.2 1 false x49 p45.1) fun S51=>OX (ldD S51 3 true y13) fun x52=>deq x52 x38=true ∧
 (OX (mentV (.agg [.i,.i,.i]) (.i .i64 0) S51 x37 x38) fun p54=>OX (extD p54.1 1) fun x55=>OX (estV p54.2 x37 x55 x34) fun S57=>k24 D.top D.top x34 D.top S57))))
 (k24 y12 y13 x21 x23 S15)) fun k11=>WB x10
 (mm S6 fun x58 S59=>OX (nilckD a0) fun x60=>OX (faD 1 x60) fun x61=>OX (stD S59 1 false x61 x58) fun S63=>k11 a0 x3 D.top S63)
 (k11 a0 x3 x10 S6))
theorem e80:wp cf c80 (frame0 d80 [a0,a1,a2,a3]) S (FinK d80.res Post)=s80 cf a0 a1 a2 a3 S Post:=wpS_of (by kernel_rfl)
theorem f80 (a0 a1 a2 a3:D) (S:Store) (Post:PT) (h:s80 (call dp) a0 a1 a2 a3 S Post):∃ r S',call dp 80 [a0,a1,a2,a3] S=some (r,S')∧Post r S':=call_s (f:=d80) rfl ⟨rfl,by decide⟩ (by rw [←e80] at h;exact h)
def s95 (cf:CallF) (a0 a1 a2:D) (S:Store) (Post:PT):Prop:=
 bxx 3 true a0 S fun x1 S2=>OX (ldD S2 3 true x1) fun x3=>OX (isoCall cf 77 [x3,a1]) fun x4=>OX (binD .neq .num x4 a2) fun x5=>WB x5
 (Post (.tup [a1,a1]) S2)
 (OX (faD 1 x1) fun x6=>OX (ldD S2 1 false x6) fun x7=>OX (binD .sub .num a1 (.i .i64 2)) fun x8=>OX (iaD 3 x7 x8) fun x9=>OX (ldD S2 3 true x9) fun x10=>al [.i .i64 0,.i .i64 0,.i .i64 0] S2 fun x11 S12=>OX (stD S12 3 true x11 x10) fun S14=>OX (faD 1 x11) fun x15=>OX (ldD S14 1 false x15) fun x16=>OX (faD 2 x11) fun x17=>OX (ldD S14 1 false x17) fun x18=>Post (.tup [x16,x18]) S14)
theorem e95:wp cf c95 (frame0 d95 [a0,a1,a2]) S (FinK d95.res Post)=s95 cf a0 a1 a2 S Post:=wpS_of (by kernel_rfl)
theorem i95 (a0 a1 a2:D) (r:D) (ha:noRefL (stripL [a0,a1,a2])=true) (hr:noRef r=true) (h:s95 (call dp) (strip a0) (strip a1) (strip a2) [] fun d _=>stripT d=r):isoCall (call dp) 95 [a0,a1,a2]=some r:=iso_s (f:=d95) rfl ⟨rfl,by decide⟩ ha hr (by rw [←e95] at h;exact h)
def s94 (cf:CallF) (a0 a1 a2 a3 a4 a5 a6 a7:D) (S:Store) (Post:PT):Prop:=
 OX (ldD S 1 false a2) fun x1=>OX (binD .eql .num a0 x1) fun x2=>OX (gsel x2 false (some a1)) fun x3=>OX (gsel x2 false (ldD S 1 false a2)) fun x4=>OX (gsel x2 false (binD .eql .num x3 x4)) fun x5=>OX (pickD x2 (.b true) x5) fun x6=>WB x6
 (OX (ldD S 1 false a2) fun x7=>Post x7 S)
 (OX (binD .lss .num a0 (.i .i64 2)) fun x8=>OX (gsel x8 true (some a1)) fun x9=>OX (gsel x8 true (binD .lss .num x9 (.i .i64 2))) fun x10=>OX (pickD x8 x10 (.b false)) fun x11=>WB x11
 (OX (ldD S 1 false a2) fun x12=>OX (binD .sub .num (.i .i64 1) x12) fun x13=>Post x13 S)
 (OX (ldD S 1 false a3) fun x14=>OX (bldV [.i .i64 0,.i .i64 0] [(0,1,false,a0),(1,1,false,a1)]) fun x15=>OX (lkD' (.agg [.i,.i]) true (.i .i64 0) S x14 (.agg x15)) fun x16=>OX (extD x16 0) fun x17=>OX (extD x16 1) fun x18=>WB x18
 (Post x17 S)
 (OX (ldD S 3 true a4) fun x19=>OX (isoCall cf 77 [x19,a0]) fun x20=>OX (ldD S 3 true a5) fun x21=>OX (isoCall cf 77 [x21,a1]) fun x22=>OX (mnD x20 x22) fun x23=>OX (ldD S 3 true a4) fun x24=>OX (isoCall cf 95 [x24,a0,x23]) fun x25=>OX (extD x25 0) fun x26=>OX (extD x25 1) fun x27=>OX (ldD S 3 true a5) fun x28=>OX (isoCall cf 95 [x28,a1,x23]) fun x29=>OX (extD x29 0) fun x30=>OX (extD x29 1) fun x31=>OX (ldD S 1 false a6) fun x32=>OX (ldD S 1 false a6) fun x33=>OX (fnD x32) fun q35=>OX (cf q35.1 ([x26,x30]++q35.2) S) fun p36=>OX (ldD p36.2 1 false a6) fun x37=>deq x37 x33=true ∧
 (OX (fnD x33) fun q39=>OX (cf q39.1 ([x27,x31]++q39.2) p36.2) fun p40=>OX (ldD p40.2 1 false a3) fun x41=>OX (bldV [.i .i64 0,.i .i64 0] [(0,1,false,a0),(1,1,false,a1)]) fun x42=>OX (cf 80 [a7,x23,p36.1,p40.1] p40.2) fun p44=>OX (ldD p44.2 1 false a3) fun x45=>deq x45 x41=true ∧
 (OX (muD' (.agg [.i,.i]) p44.2 x41 (.agg x42) p44.1) fun S47=>OX (ldD S47 1 false a3) fun x48=>OX (bldV [.i .i64 0,.i .i64 0] [(0,1,false,a0),(1,1,false,a1)]) fun x49=>OX (lkD' (.agg [.i,.i]) false (.i .i64 0) S47 x48 (.agg x49)) fun x50=>Post x50 S47)))))
theorem e94:wp cf c94 (frame0 d94 [a0,a1,a2,a3,a4,a5,a6,a7]) S (FinK d94.res Post)=s94 cf a0 a1 a2 a3 a4 a5 a6 a7 S Post:=wpS_of (by kernel_rfl)
theorem f94 (a0 a1 a2 a3 a4 a5 a6 a7:D) (S:Store) (Post:PT) (h:s94 (call dp) a0 a1 a2 a3 a4 a5 a6 a7 S Post):∃ r S',call dp 94 [a0,a1,a2,a3,a4,a5,a6,a7] S=some (r,S')∧Post r S':=call_s (f:=d94) rfl ⟨rfl,by decide⟩ (by rw [←e94] at h;exact h)
def s54 (cf:CallF) (a0 a1 a2:D) (S:Store) (Post:PT):Prop:=
 bxx 3 true a0 S fun x1 S2=>bxx 3 true a1 S2 fun x3 S4=>bxx 1 false a2 S4 fun x5 S6=>al [.sl 2 true [] .ro,.sl 3 true [] .ro,.i .i64 0] S6 fun x7 S8=>OX (ldD S8 3 true x1) fun x9=>OX (isoCall cf 33 [x9]) fun x10=>OX (unD .not x10) fun x11=>OX (gsel x11 false (ldD S8 3 true x3)) fun x12=>OX (gsel x11 false (isoCall cf 33 [x12])) fun x13=>OX (gsel x11 false (unD .not x13)) fun x14=>OX (pickD x11 (.b true) x14) fun x15=>OX (gsel x15 false (faD 0 x1)) fun x16=>OX (gsel x15 false (ldD S8 1 false x16)) fun x17=>OX (gsel x15 false (faD 0 x3)) fun x18=>OX (gsel x15 false (ldD S8 1 false x18)) fun x19=>OX (gsel x15 false (isoCall cf 74 [x17,x19])) fun x20=>OX (gsel x15 false (unD .not x20)) fun x21=>OX (pickD x15 (.b true) x21) fun x22=>WB x22
 (OX (bldV [.sl 2 true [] .ro,.sl 3 true [] .ro,.i .i64 0] []) fun x23=>OX (stD S8 3 true x7 (.agg x23)) fun S25=>OX (ldc S25 3 true x7) fun x26=>Post (.tup [x26,(.i .i64 1)]) S25)
 (al [.sl 3 true [] .ro,.nilm] S8 fun x27 S28=>mm S28 fun x29 S30=>al [.nilm] S30 fun x31 S32=>OX (stD S32 1 false x31 x29) fun S34=>al [.top] S34 fun x35 S36=>OX (stD S36 1 false x35 (.fn 94 [x5,x31,x1,x3,x35,x27])) fun S38=>OX (ldD S38 1 false x35) fun x39=>OX (faD 2 x1) fun x40=>OX (ldD S38 1 false x40) fun x41=>OX (faD 2 x3) fun x42=>OX (ldD S38 1 false x42) fun x43=>OX (fnD x39) fun q45=>OX (cf q45.1 ([x41,x43]++q45.2) S38) fun p46=>OX (faD 0 x1) fun x47=>OX (ldD p46.2 1 false x47) fun x48=>OX (faD 0 x27) fun x49=>OX (ldD p46.2 1 false x49) fun x50=>OX (isoCall cf 72 [x48,x50,p46.1]) fun x51=>al [.sl 2 true [] .ro,.sl 3 true [] .ro,.i .i64 0] p46.2 fun x52 S53=>OX (stD S53 3 true x52 x51) fun S55=>OX (faD 1 x52) fun x56=>OX (ldD S55 1 false x56) fun x57=>OX (lenD false x57) fun x58=>OX (binD .gtr .num x58 (.i .i64 4096)) fun x59=>WB x59
 (OX (bldV [.sl 2 true [] .ro,.sl 3 true [] .ro,.i .i64 0] []) fun x60=>OX (stD S55 3 true x7 (.agg x60)) fun S62=>OX (ldc S62 3 true x7) fun x63=>Post (.tup [x63,(.i .i64 6)]) S62)
 (OX (ldD S55 3 true x52) fun x64=>OX (stD S55 3 true x7 x64) fun S66=>OX (ldc S66 3 true x7) fun x67=>Post (.tup [x67,(.i .i64 0)]) S66))
theorem e54:wp cf c54 (frame0 d54 [a0,a1,a2]) S (FinK d54.res Post)=s54 cf a0 a1 a2 S Post:=wpS_of (by kernel_rfl)
theorem i54 (a0 a1 a2:D) (r:D) (ha:noRefL (stripL [a0,a1,a2])=true) (hr:noRef r=true) (h:s54 (call dp) (strip a0) (strip a1) (strip a2) [] fun d _=>stripT d=r):isoCall (call dp) 54 [a0,a1,a2]=some r:=iso_s (f:=d54) rfl ⟨rfl,by decide⟩ ha hr (by rw [←e54] at h;exact h)
def s21 (cf:CallF) (a0 a1:D) (S:Store) (Post:PT):Prop:=
 bxx 3 true a0 S fun x1 S2=>bxx 3 true a1 S2 fun x3 S4=>al [.sl 2 true [] .ro,.sl 3 true [] .ro,.i .i64 0] S4 fun x5 S6=>OX (ldD S6 3 true x1) fun x7=>OX (ldD S6 3 true x3) fun x8=>OX (isoCall cf 54 [x7,x8,(.i .i64 0)]) fun x9=>OX (extD x9 0) fun x10=>OX (extD x9 1) fun x11=>OX (stD S6 3 true x5 x10) fun S13=>OX (ldc S13 3 true x5) fun x14=>Post (.tup [x14,x11]) S13
theorem e21:wp cf c21 (frame0 d21 [a0,a1]) S (FinK d21.res Post)=s21 cf a0 a1 S Post:=wpS_of (by kernel_rfl)
theorem i21 (a0 a1:D) (r:D) (ha:noRefL (stripL [a0,a1])=true) (hr:noRef r=true) (h:s21 (call dp) (strip a0) (strip a1) [] fun d _=>stripT d=r):isoCall (call dp) 21 [a0,a1]=some r:=iso_s (f:=d21) rfl ⟨rfl,by decide⟩ ha hr (by rw [←e21] at h;exact h)
def s22 (cf:CallF) (a0 a1:D) (S:Store) (Post:PT):Prop:=
 bxx 3 true a0 S fun x1 S2=>bxx 3 true a1 S2 fun x3 S4=>al [.sl 2 true [] .ro,.sl 3 true [] .ro,.i .i64 0] S4 fun x5 S6=>OX (ldD S6 3 true x1) fun x7=>OX (ldD S6 3 true x3) fun x8=>OX (isoCall cf 54 [x7,x8,(.i .i64 1)]) fun x9=>OX (extD x9 0) fun x10=>OX (extD x9 1) fun x11=>OX (stD S6 3 true x5 x10) fun S13=>OX (ldc S13 3 true x5) fun x14=>Post (.tup [x14,x11]) S13
theorem e22:wp cf c22 (frame0 d22 [a0,a1]) S (FinK d22.res Post)=s22 cf a0 a1 S Post:=wpS_of (by kernel_rfl)
theorem i22 (a0 a1:D) (r:D) (ha:noRefL (stripL [a0,a1])=true) (hr:noRef r=true) (h:s22 (call dp) (strip a0) (strip a1) [] fun d _=>stripT d=r):isoCall (call dp) 22 [a0,a1]=some r:=iso_s (f:=d22) rfl ⟨rfl,by decide⟩ ha hr (by rw [←e22] at h;exact h)
def s50_r0 (cf:CallF) (a0 a3 a4 a7 a8 a9:D) (S:Store) (Q:QT):Prop:=
 Q .ret (mkf 19 [(0,.top),(3,.top),(4,(.i .i64 (-1))),(7,.top),(8,.top),(9,.top)]) S
theorem e50_r0:wp cf c50_r0 (mkf 19 [(0,a0),(3,a3),(4,a4),(7,a7),(8,a8),(9,a9)]) S Q=s50_r0 cf a0 a3 a4 a7 a8 a9 S Q:=wpS_of (by kernel_rfl)
def s50_0 (cf:CallF) (a0 a3 a4 a7 a8 a9:D) (S:Store) (Q:QT):Prop:=
 OX (binD .lss .num a8 a7) fun x1=>WB x1
 (OX (ldD S 2 true a3) fun x2=>OX (iaD 2 a0 a8) fun x3=>OX (ldD S 2 true x3) fun x4=>OX (binD .eql (.agg [.i,.i]) x2 x4) fun x5=>WB x5
 (Q .ret (mkf 19 [(0,.top),(3,.top),(4,a8),(7,.top),(8,.top),(9,.top)]) S)
 (OX (binD .add .num a8 (.i .i64 1)) fun x6=>Q .normal (mkf 19 [(0,a0),(3,a3),(4,a4),(7,a7),(8,x6),(9,.top)]) S))
 (Q (.exit 0) (mkf 19 [(0,a0),(3,a3),(4,a4),(7,a7),(8,a8),(9,x1)]) S)
theorem e50_0:wp cf c50_0 (fkill (mkf 19 [(0,a0),(3,a3),(4,a4),(7,a7),(8,a8),(9,a9)]) []) S Q=s50_0 cf a0 a3 a4 a7 a8 a9 S Q:=wpS_of (by kernel_rfl)
def s50 (cf:CallF) (a0 a1:D) (S:Store) (Post:PT):Prop:=
 bxx 2 true a1 S fun x7 S8=>OX (lenD false a0) fun x9=>W cf (.loop [] c50_0) (mkf 19 [(0,a0),(3,x7),(4,.top),(7,x9),(8,(.i .i64 0)),(9,.top)]) S8 (Qblk 0 (QS cf c50_r0 (FinK [.t 4] Post)))
theorem e50:wp cf c50 (frame0 d50 [a0,a1]) S (FinK d50.res Post)=s50 cf a0 a1 S Post:=wpS_of (by kernel_rfl)
theorem i50 (a0 a1:D) (r:D) (ha:noRefL (stripL [a0,a1])=true) (hr:noRef r=true) (h:s50 (call dp) (strip a0) (strip a1) [] fun d _=>stripT d=r):isoCall (call dp) 50 [a0,a1]=some r:=iso_s (f:=d50) rfl ⟨rfl,by decide⟩ ha hr (by rw [←e50] at h;exact h)
def s14 (cf:CallF) (a0 a1:D) (S:Store) (Post:PT):Prop:=
 bxx 2 true a1 S fun x1 S2=>al [.sl 2 true [] .ro,.sl 3 true [] .ro,.i .i64 0] S2 fun x3 S4=>OX (isoCall cf 48 [a0]) fun x5=>OX (unD .not x5) fun x6=>WB x6
 (OX (bldV [.sl 2 true [] .ro,.sl 3 true [] .ro,.i .i64 0] []) fun x7=>OX (stD S4 3 true x3 (.agg x7)) fun S9=>OX (ldc S9 3 true x3) fun x10=>Post (.tup [x10,(.i .i64 1)]) S9)
 (OX (ldD S4 2 true x1) fun x11=>OX (isoCall cf 50 [a0,x11]) fun x12=>OX (binD .lss .num x12 (.i .i64 0)) fun x13=>WB x13
 (OX (bldV [.sl 2 true [] .ro,.sl 3 true [] .ro,.i .i64 0] []) fun x14=>OX (stD S4 3 true x3 (.agg x14)) fun S16=>OX (ldc S16 3 true x3) fun x17=>Post (.tup [x17,(.i .i64 4)]) S16)
 (OX (isoCall cf 49 [a0]) fun x18=>OX (bldV [.i .i64 0,.i .i64 0,.i .i64 0] [(0,1,false,x12),(1,1,false,(.i .i64 0)),(2,1,false,(.i .i64 1))]) fun x19=>OX (cellsV 3 true [(.agg x19)]) fun x20=>OX (bldV [.sl 2 true [] .ro,.sl 3 true [] .ro,.i .i64 0] [(0,1,false,x18),(1,1,false,(.sl 3 false x20 .ro)),(2,1,false,(.i .i64 2))]) fun x21=>OX (stD S4 3 true x3 (.agg x21)) fun S23=>OX (ldc S23 3 true x3) fun x24=>Post (.tup [x24,(.i .i64 0)]) S23))
theorem e14:wp cf c14 (frame0 d14 [a0,a1]) S (FinK d14.res Post)=s14 cf a0 a1 S Post:=wpS_of (by kernel_rfl)
theorem i14 (a0 a1:D) (r:D) (ha:noRefL (stripL [a0,a1])=true) (hr:noRef r=true) (h:s14 (call dp) (strip a0) (strip a1) [] fun d _=>stripT d=r):isoCall (call dp) 14 [a0,a1]=some r:=iso_s (f:=d14) rfl ⟨rfl,by decide⟩ ha hr (by rw [←e14] at h;exact h)
def s13 (cf:CallF) (a0 a1:D) (S:Store) (Post:PT):Prop:=
 al [.sl 2 true [] .ro,.sl 3 true [] .ro,.i .i64 0] S fun x1 S2=>OX (isoCall cf 48 [a0]) fun x3=>OX (unD .not x3) fun x4=>WB x4
 (OX (bldV [.sl 2 true [] .ro,.sl 3 true [] .ro,.i .i64 0] []) fun x5=>OX (stD S2 3 true x1 (.agg x5)) fun S7=>OX (ldc S7 3 true x1) fun x8=>Post x8 S7)
 (OX (isoCall cf 49 [a0]) fun x9=>OX (bldV [.sl 2 true [] .ro,.sl 3 true [] .ro,.i .i64 0] [(0,1,false,x9)]) fun x10=>al [.sl 2 true [] .ro,.sl 3 true [] .ro,.i .i64 0] S2 fun x11 S12=>OX (stD S12 3 true x11 (.agg x10)) fun S14=>jn (fun (y16 y17 y18:D) (S19:Store)=>OX (ldD S19 3 true y17) fun x20=>OX (stD S19 3 true y16 x20) fun S22=>OX (ldc S22 3 true y16) fun x23=>Post x23 S22) fun k15=>WB a1
 (OX (faD 2 x11) fun x24=>OX (stD S14 1 false x24 (.i .i64 1)) fun S26=>k15 x1 x11 D.top S26)
 (k15 x1 x11 a1 S14))
theorem e13:wp cf c13 (frame0 d13 [a0,a1]) S (FinK d13.res Post)=s13 cf a0 a1 S Post:=wpS_of (by kernel_rfl)
theorem i13 (a0 a1:D) (r:D) (ha:noRefL (stripL [a0,a1])=true) (hr:noRef r=true) (h:s13 (call dp) (strip a0) (strip a1) [] fun d _=>stripT d=r):isoCall (call dp) 13 [a0,a1]=some r:=iso_s (f:=d13) rfl ⟨rfl,by decide⟩ ha hr (by rw [←e13] at h;exact h)
end Go.Proofs.YtjlmeikcfdanmaaGreatDoor.DE

namespace Go.Proofs.YtjlmeikcfdanmaaGreatDoor.BT
noncomputable def mk (v:Nat) (l h:T):T:=if l=h then l else .node v l h
theorem mk_fn (v:Nat) (l h:T) (s:Nat→Bool):fn (mk v l h) s=if s v then fn h s else fn l s:=by
 unfold mk
 split
 ·rename_i e;subst e;simp
 ·rfl
theorem mk_wf {n v:Nat} {l h:T} (hv:v<n) (hl:Wf n l) (hh:Wf n h) (tl:v<top n l) (th:v<top n h):Wf n (mk v l h)∧v≤top n (mk v l h):=by
 unfold mk
 split
 ·exact ⟨hl,by omega⟩
 ·rename_i e
  exact ⟨⟨hv,tl,th,e,hl,hh⟩,Nat.le_refl _⟩
def Dep (n v:Nat) (f:(Nat→Bool)→Bool):Prop:=∀ s r,(∀ i,v≤i→i<n→s i=r i)→f s=f r
theorem Dep.mono {n v w:Nat} {f:(Nat→Bool)→Bool} (h:Dep n v f) (k:w≤v):Dep n w f:=fun s r e=>h s r fun i h1 h2=>e i (by omega) h2
theorem fn_dep {n:Nat} {t:T} (w:Wf n t):Dep n (top n t) (fn t):=fun _ _ e=>fn_agree w e
noncomputable def tr (n:Nat):Nat→((Nat→Bool)→Bool)→T
 | 0,f=>.leaf (f fun _=>false)
 | k+1,f=>mk (n-(k+1)) (tr n k fun s=>f (upd s (n-(k+1)) false)) (tr n k fun s=>f (upd s (n-(k+1)) true))
theorem tr_wf (n:Nat):∀ (k:Nat) (f:(Nat→Bool)→Bool),k≤n→Wf n (tr n k f)∧n-k≤top n (tr n k f)
 | 0,f,_=>⟨trivial,by simp [tr,top]⟩
 | k+1,f,h=>by
  have a:=tr_wf n k (fun s=>f (upd s (n-(k+1)) false)) (by omega)
  have b:=tr_wf n k (fun s=>f (upd s (n-(k+1)) true)) (by omega)
  exact mk_wf (by omega) a.1 b.1 (by omega) (by omega)
theorem upd_same (s:Nat→Bool) (v:Nat):upd s v (s v)=s:=by
 funext i
 simp only [upd]
 split
 ·rename_i h;rw [h]
 ·rfl
theorem tr_fn (n:Nat):∀ (k:Nat) (f:(Nat→Bool)→Bool),k≤n→Dep n (n-k) f→∀ s,fn (tr n k f) s=f s
 | 0,f,_,hd,s=>hd _ _ (by intro i h1 h2;omega)
 | k+1,f,h,hd,s=>by
  have hd':∀ b,Dep n (n-k) (fun s=>f (upd s (n-(k+1)) b)):=by
   intro b s r e
   refine hd _ _ fun i h1 h2=>?_
   simp only [upd]
   split
   ·rfl
   ·exact e i (by omega) h2
  simp only [tr,mk_fn]
  rw [tr_fn n k _ (by omega) (hd' false),tr_fn n k _ (by omega) (hd' true)]
  split
  ·rename_i e;rw [←e,upd_same]
  ·rename_i e
   have:s (n-(k+1))=false:=by simpa using e
   rw [←this,upd_same]
noncomputable def treeOf (n:Nat) (f:(Nat→Bool)→Bool):T:=tr n n f
theorem treeOf_wf (n:Nat) (f:(Nat→Bool)→Bool):Wf n (treeOf n f):=(tr_wf n n f (Nat.le_refl _)).1
theorem treeOf_fn {n:Nat} {f:(Nat→Bool)→Bool} (h:Dep n 0 f) (s:Nat→Bool):fn (treeOf n f) s=f s:=tr_fn n n f (Nat.le_refl _) (h.mono (by omega)) s
theorem canon' {n:Nat} {t s:T} (ht:Wf n t) (hs:Wf n s) (h:∀ a,fn t a=fn s a):t=s:=canon _ t s (Nat.le_refl _) ht hs h
def notT:T→T
 | .leaf b=>.leaf (!b)
 | .node v l h=>.node v (notT l) (notT h)
theorem notT_notT:∀ t,notT (notT t)=t
 | .leaf b=>by simp [notT]
 | .node v l h=>by simp [notT,notT_notT l,notT_notT h]
theorem notT_inj {t s:T} (h:notT t=notT s):t=s:=by rw [←notT_notT t,h,notT_notT]
theorem top_not (n:Nat):∀ t,top n (notT t)=top n t
 | .leaf _=>rfl
 | .node _ _ _=>rfl
theorem Wf_not {n:Nat}:∀ {t:T},Wf n t→Wf n (notT t)
 | .leaf _,_=>trivial
 | .node v l h,w=>⟨w.1,by rw [top_not];exact w.2.1,by rw [top_not];exact w.2.2.1,fun e=>w.2.2.2.1 (notT_inj e),Wf_not w.2.2.2.2.1,Wf_not w.2.2.2.2.2⟩
theorem fn_not:∀ (t:T) (s:Nat→Bool),fn (notT t) s = !fn t s
 | .leaf _,_=>rfl
 | .node v l h,s=>by
  simp only [notT,fn,fn_not l,fn_not h]
  split <;> rfl
theorem mem_not {t:T} {M:List T}:notT t∈M.map notT↔t∈M:=
 ⟨fun h=>by obtain ⟨s,hs,e⟩:=List.mem_map.1 h;rwa [←notT_inj e],fun h=>List.mem_map.2 ⟨t,h,rfl⟩⟩
theorem pos_not (t:T):∀ M:List T,pos (M.map notT) (notT t)=pos M t
 | []=>rfl
 | x::M=>by
  simp only [List.map_cons,pos,pos_not t M]
  by_cases h:x=t
  ·simp [h]
  ·have:notT x≠notT t:=fun e=>h (notT_inj e)
   simp [h,this]
def swp (r:Int):Int:=if r<2 then 1-r else r
theorem code_not (M:List T):∀ t:T,code (M.map notT) (notT t)=swp (code M t)
 | .leaf b=>by cases b <;> simp [notT,code,swp]
 | .node v l h=>by
  have:=code_node_ge M v l h
  rw [swp,if_neg (by omega)]
  have:=pos_not (.node v l h) M
  simp only [notT] at this
  simp only [notT,code,this]
theorem post_not:∀ (t:T) (M:List T),post (notT t) (M.map notT)=(post t M).map notT
 | .leaf _,_=>rfl
 | .node v l h,M=>by
  have hm:=mem_not (t:=.node v l h) (M:=M)
  simp only [notT] at hm
  simp only [notT,post,hm]
  split
  ·rfl
  ·rw [post_not l M,post_not h (post l M)];simp [notT]
theorem nds_not {L:List T} (hL:∀ t,t∈L→kids L t):nds (L.map notT)=(nds L).map fun x=>(x.1,swp x.2.1,swp x.2.2):=by
 simp only [nds,List.map_map]
 apply List.map_congr_left
 intro t ht
 have:=hL t ht
 revert this
 cases t with
 | leaf _=>exact fun h=>h.elim
 | node v l h=>intro _;simp [notT,nd,code_not]
def loT (v:Nat):T→T
 | .leaf b=>.leaf b
 | .node w l h=>if w=v then l else .node w l h
def hiT (v:Nat):T→T
 | .leaf b=>.leaf b
 | .node w l h=>if w=v then h else .node w l h
theorem fn_parts {n v:Nat}:∀ {t:T},Wf n t→v≤top n t→∀ s,fn t s=if s v then fn (hiT v t) s else fn (loT v t) s
 | .leaf b,_,_,s=>by simp [loT,hiT]
 | .node w l h,_,_,s=>by
  by_cases e:w=v
  ·subst e;simp [loT,hiT,fn]
  ·simp [loT,hiT,e]
theorem lo_wf {n v:Nat}:∀ {t:T},Wf n t→v≤top n t→v<n→Wf n (loT v t)∧v<top n (loT v t)
 | .leaf b,w,_,hv=>⟨w,hv⟩
 | .node x l h,w,hx,hv=>by
  by_cases e:x=v
  ·subst e;simp [loT];exact ⟨w.2.2.2.2.1,w.2.1⟩
  ·simp [loT,e];simp only [top] at hx ⊢;exact ⟨w,by omega⟩
theorem hi_wf {n v:Nat}:∀ {t:T},Wf n t→v≤top n t→v<n→Wf n (hiT v t)∧v<top n (hiT v t)
 | .leaf b,w,_,hv=>⟨w,hv⟩
 | .node x l h,w,hx,hv=>by
  by_cases e:x=v
  ·subst e;simp [hiT];exact ⟨w.2.2.2.2.2,w.2.2.1⟩
  ·simp [hiT,e];simp only [top] at hx ⊢;exact ⟨w,by omega⟩
theorem lo_size (v:Nat):∀ t:T,(loT v t).size≤t.size
 | .leaf _=>Nat.le_refl _
 | .node w l h=>by simp only [loT];split <;> simp only [T.size] <;> omega
theorem hi_size (v:Nat):∀ t:T,(hiT v t).size≤t.size
 | .leaf _=>Nat.le_refl _
 | .node w l h=>by simp only [hiT];split <;> simp only [T.size] <;> omega
theorem lo_size_lt {n v:Nat}:∀ {t:T},top n t=v→v<n→(loT v t).size<t.size
 | .leaf _,h,hv=>by simp only [top] at h;omega
 | .node w l h,e,_=>by simp only [top] at e;simp only [loT,if_pos e,T.size];omega
theorem hi_size_lt {n v:Nat}:∀ {t:T},top n t=v→v<n→(hiT v t).size<t.size
 | .leaf _,h,hv=>by simp only [top] at h;omega
 | .node w l h,e,_=>by simp only [top] at e;simp only [hiT,if_pos e,T.size];omega
theorem lo_sub {L:List T} (hL:Cl L) (v:Nat):∀ {t:T},sub L t→sub L (loT v t)
 | .leaf _,h=>h
 | .node w l h,k=>by
  simp only [loT]
  split
  ·exact (Cl_kids hL _ k).1
  ·exact k
theorem hi_sub {L:List T} (hL:Cl L) (v:Nat):∀ {t:T},sub L t→sub L (hiT v t)
 | .leaf _,h=>h
 | .node w l h,k=>by
  simp only [hiT]
  split
  ·exact (Cl_kids hL _ k).2
  ·exact k
def opb (d x y:Bool):Bool:=if d then x || y else x&&y
def IsOp (n:Nat) (d:Bool) (t s u:T):Prop:=Wf n u∧min (top n t) (top n s)≤top n u∧∀ a,fn u a=opb d (fn t a) (fn s a)
theorem IsOp_dom_l {n:Nat} {d:Bool} {s:T}:IsOp n d (.leaf d) s (.leaf d):=
 ⟨trivial,by simp only [top];exact Nat.min_le_left _ _,fun a=>by cases d <;> simp [fn,opb]⟩
theorem IsOp_dom_r {n:Nat} {d:Bool} {t:T}:IsOp n d t (.leaf d) (.leaf d):=
 ⟨trivial,by simp only [top];exact Nat.min_le_right _ _,fun a=>by cases d <;> simp [fn,opb]⟩
theorem IsOp_both {n:Nat} {d:Bool}:IsOp n d (.leaf (!d)) (.leaf (!d)) (.leaf (!d)):=
 ⟨trivial,by simp [top],fun a=>by cases d <;> simp [fn,opb]⟩
theorem IsOp_mk {n:Nat} {d:Bool} {t s u1 u2:T} (ht:Wf n t) (hs:Wf n s) (hv:min (top n t) (top n s)<n)
  (h1:IsOp n d (loT (min (top n t) (top n s)) t) (loT (min (top n t) (top n s)) s) u1) (h2:IsOp n d (hiT (min (top n t) (top n s)) t) (hiT (min (top n t) (top n s)) s) u2) :
  IsOp n d t s (mk (min (top n t) (top n s)) u1 u2):=by
 have vt:min (top n t) (top n s)≤top n t:=Nat.min_le_left _ _
 have vs:min (top n t) (top n s)≤top n s:=Nat.min_le_right _ _
 generalize hmv:min (top n t) (top n s)=v at *
 have a1:=(lo_wf ht vt hv).2
 have a2:=(lo_wf hs vs hv).2
 have b1:=(hi_wf ht vt hv).2
 have b2:=(hi_wf hs vs hv).2
 have w:=mk_wf hv h1.1 h2.1 (Nat.lt_of_lt_of_le (Nat.lt_min.2 ⟨a1,a2⟩) h1.2.1) (Nat.lt_of_lt_of_le (Nat.lt_min.2 ⟨b1,b2⟩) h2.2.1)
 refine ⟨w.1,by rw [hmv];exact w.2,fun a=>?_⟩
 rw [mk_fn,fn_parts ht vt a,fn_parts hs vs a,h1.2.2,h2.2.2]
 split <;> rfl
noncomputable def opT (n:Nat) (d:Bool) (t s:T):T:=treeOf n fun a=>opb d (fn t a) (fn s a)
theorem IsOp_opT {n:Nat} {d:Bool} {t s u:T} (ht:Wf n t) (hs:Wf n s) (h:IsOp n d t s u):u=opT n d t s:=by
 refine canon' h.1 (treeOf_wf _ _) fun a=>?_
 rw [h.2.2,opT,treeOf_fn]
 intro x y e
 have e1:fn t x=fn t y:=fn_agree ht fun i _ h2=>e i (Nat.zero_le _) h2
 have e2:fn s x=fn s y:=fn_agree hs fun i _ h2=>e i (Nat.zero_le _) h2
 simp only [e1,e2]
theorem opT_wf (n:Nat) (d:Bool) (t s:T):Wf n (opT n d t s):=treeOf_wf _ _
theorem opT_fn {n:Nat} {d:Bool} {t s:T} (ht:Wf n t) (hs:Wf n s) (a:Nat→Bool):fn (opT n d t s) a=opb d (fn t a) (fn s a):=by
 rw [opT,treeOf_fn]
 intro x y e
 have e1:fn t x=fn t y:=fn_agree ht fun i _ h2=>e i (Nat.zero_le _) h2
 have e2:fn s x=fn s y:=fn_agree hs fun i _ h2=>e i (Nat.zero_le _) h2
 simp only [e1,e2]
def varT (i:Nat):T:=.node i (.leaf false) (.leaf true)
theorem varT_wf {n i:Nat} (h:i<n):Wf n (varT i):=⟨h,h,h,by simp,trivial,trivial⟩
theorem varT_fn (i:Nat) (a:Nat→Bool):fn (varT i) a=a i:=by simp only [varT,fn];cases a i <;> rfl
theorem post_len {n:Nat} {t:T} (w:Wf n t):(post t []).length+1≤2 ^ n:=by
 obtain ⟨N,e,_,_,_,z⟩:=post_spec t [] Cl_nil
 rw [e,List.nil_append]
 have a:=Wf_size w
 have b:2 ^ (n-top n t)≤2 ^ n:=Nat.pow_le_pow_right (by omega) (by omega)
 omega
end Go.Proofs.YtjlmeikcfdanmaaGreatDoor.BT

namespace Go.Proofs.YtjlmeikcfdanmaaGreatDoor.DE.V
open Go BT
@[simp] theorem nilck_bx (id o:Nat):nilckD (.bx id o)=some (.bx id o):=(rfl)
@[simp] theorem mn_i (k:IntKind) (a b:Int):mnD (.i k a) (.i k b)=some (.i k (if b<a then b else a)):=by simp [mnD]
@[simp] theorem mx_i (k:IntKind) (a b:Int):mxD (.i k a) (.i k b)=some (.i k (if b > a then b else a)):=by simp [mxD]
@[simp] theorem bld_nil (z:List D):bldV z []=some z:=(rfl)
theorem jn_eq {α:Type} (K:α) (X:α→Prop):jn K X=X K:=rfl
theorem jn_intro {α:Type} {K:α} {X:α→Prop} (P:α→Prop) (hK:P K) (hX:∀ k,P k→X k):jn K X:=hX K hK
def eNdK (x:Nd):D:=.agg (eNd x)
def eRowK (x:Row):D:=.agg (eRow x)
theorem keyE_ndK:KeyE (.agg [.i,.i,.i]) eNdK:=keyE_nd
theorem keyE_rowK:KeyE (.agg [.i,.i]) eRowK:=keyE_row
section
variable {α β:Type} [DecidableEq α] {kk:KK} {ek:α→D} {ev:β→D}
theorem posD_none (h:KeyE kk ek) (a:α):∀ (es:List (α × β)) (j:Nat),assoc a es=none→posD kk (ek a) (eMap ek ev es) j=some none
 | [],_,_=>rfl
 | (k,v)::es,j,q=>by
  simp only [assoc] at q
  split at q
  ·cases q
  ·rename_i e
   simp only [eMap,List.map_cons,posD,h a k,e,decide_false]
   exact posD_none h a es (j+1) q
theorem mentV_new (h:KeyE kk ek) {a:α} (hk:isKey kk (ek a)=true) {z:D} {S:Store} {id:Nat} {es:List (α × β)} (hS:sget S id=some (.map (eMap ek ev es))) (ha:assoc a es=none) :
  mentV kk z S (.mp id) (ek a)=some (.tup [z,.i .i64 es.length],sset S id (.map (eMap ek ev es++[(ek a,z)]))):=by
 simp only [mentV,hk,if_true,hS,posD_none h a es 0 ha]
 simp [eMap]
theorem valD_last (v:D) (k:D) (u:D):∀ es:List (D × D),valD v es.length (es++[(k,u)])=es++[(k,v)]
 | []=>rfl
 | e::es=>by simp [valD,valD_last v k u es]
theorem estV_new {S:Store} {id:Nat} {es:List (D × D)} {k u v:D} (hS:sget S id=some (.map (es++[(k,u)]))) :
  estV S (.mp id) (.i .i64 es.length) v=some (sset S id (.map (es++[(k,v)]))):=by
 simp only [estV,hS]
 rw [if_pos ⟨by omega,by simp;omega⟩]
 simp [valD_last]
end
def MkI (ik:Nat) (pr:Nat→Prop) (M:List T) (S:Store):Prop:=
 ∃ n o u,sget S ik=some (.box [.sl 3 n ((nds M).map eNd) o,u])∧Liv S n M.length o∧(∀ t,o = .tok t→¬pr t) ∧
  ((u = .nilm∧M=[])∨∃ iu,u = .mp iu∧¬pr iu∧sget S iu=some (.map (eMap eNdK eI (M.map fun s=>(nd M s,code M s)))))
noncomputable def addT (M:List T) (t:T):List T:=match t with
 | .leaf _=>M
 | .node v l h=>if .node v l h∈M then M else M++[.node v l h]
theorem assoc_nd {M:List T} (hM:Cl M) {v:Nat} {l h:T} (k:kids M (.node v l h)):∀ (N:List T),(∀ s,s∈N→s∈M)→assoc (nd M (.node v l h)) (N.map fun s=>(nd M s,code M s))=if T.node v l h∈N then some (code M (.node v l h)) else none
 | [],_=>by simp [assoc]
 | s::N,hN=>by
  simp only [List.map_cons,assoc,assoc_nd hM k N (fun x hx=>hN x (List.mem_cons_of_mem _ hx))]
  by_cases e:T.node v l h=s
  ·subst e;simp
  ·have:nd M (.node v l h)≠nd M s:=fun h'=>e (nd_inj k (Cl_kids hM s (hN s (by simp))) h')
   simp [this,e]
theorem maps_snoc {M:List T} {t:T} (h:Cl (M++[t])):(M++[t]).map (fun s=>(nd (M++[t]) s,code (M++[t]) s))=M.map (fun s=>(nd M s,code M s))++[(nd M t,(M.length:Int)+2)]:=by
 obtain ⟨h1,h2,h3⟩:=Cl_snoc.1 h
 rw [List.map_append]
 congr 1
 ·apply List.map_congr_left
  intro s hs
  rw [nd_app [t] (Cl_kids h1 s hs),code_app [t] (sub_of h1 s hs)]
 ·simp only [List.map_cons,List.map_nil,nd_app [t] h3]
  congr 2
  revert h2 h3
  cases t with
  | leaf _=>exact fun _ h=>h.elim
  | node v l h=>
   intro h2 _
   simp only [code]
   rw [pos_new [] h2]
theorem v80 (ik:Nat) (pr:Nat→Prop) {M:List T} (hM:Cl M) (hl:M.length<1000000) (v:Nat) (l h:T) (kl:sub M l) (kh:sub M h) (S:Store) (hI:MkI ik pr M S) (hmk:¬pr ik) (hpl:∀ j,pr j→j<S.length) :
  ∃ S',call dp 80 [.bx ik 0,.i .i64 v,.i .i64 (code M l),.i .i64 (code M h)] S=some (.i .i64 (code (addT M (mk v l h)) (mk v l h)),S')∧MkI ik pr (addT M (mk v l h)) S'∧PresB ik S S'∧(∀ j e,pr j→sget S j=some e→sget S' j=some e)∧S.length≤S'.length:=by
 let P:D→Store→Prop:=fun r S'=>r = .i .i64 (code (addT M (mk v l h)) (mk v l h))∧MkI ik pr (addT M (mk v l h)) S'∧PresB ik S S'∧(∀ j e,pr j→sget S j=some e→sget S' j=some e)∧S.length≤S'.length
 obtain ⟨r,S',e,rfl,h1,h2,h3,h4⟩:=f80 (.bx ik 0) (.i .i64 v) (.i .i64 (code M l)) (.i .i64 (code M h)) S P (by
  simp only [s80,bin_eql]
  by_cases e:l=h
  ·subst e
   simp
   have hm:mk v l l=l:=by simp [mk]
   have ha:addT M l=M:=by
    revert kl
    cases l with
    | leaf _=>intro _;rfl
    | node _ _ _=>intro k;simp only [addT];exact if_pos k
   exact ⟨by rw [hm,ha],by rw [hm,ha];exact hI,PresB.refl _ _,fun _ _ _ e=>e,Nat.le_refl _⟩
  ·have hne:¬code M l=code M h:=fun e'=>e (code_inj kl kh e')
   have hm:mk v l h = .node v l h:=by simp [mk,e]
   have kk:kids M (.node v l h):=⟨kl,kh⟩
   obtain ⟨n,o,u,j1,j2,jp,j3⟩:=hI
   have gk:=sget_lt j1
   obtain ⟨c,hbin,hcu⟩:∃ c,binD .eql .map u .nilm=some (.b c)∧(c=true↔u = .nilm):=by
    rcases j3 with ⟨rfl,_⟩ | ⟨iu,rfl,_⟩
    ·exact ⟨true,rfl,by simp⟩
    ·exact ⟨false,rfl,by simp⟩
   simp [-OX_b,hne,bldV,j1,show ¬ik=S.length by omega,hbin]
   rw [show [D.i .i64 (v:Int),.i .i64 (code M l),.i .i64 (code M h)]=eNd (nd M (.node v l h)) from rfl]
   refine jn_intro (fun (k:D→D→D→Store→Prop)=>∀ (y:D) (iu:Nat) (S15:Store),sget S15 S.length=some (.box (eNd (nd M (.node v l h))))→sget S15 ik=some (.box [.sl 3 n ((nds M).map eNd) o,.mp iu])→Liv S15 n M.length o→¬pr iu→iu≠ik→iu≠S.length →
    sget S15 iu=some (.map (eMap eNdK eI (M.map fun s=>(nd M s,code M s))))→PresB ik S S15→(∀ j e,pr j→sget S j=some e→sget S15 j=some e)→S.length≤S15.length→k (.bx ik 0) (.bx S.length 0) y S15) ?_ ?_
   ·intro y iu S15 b0 b1 b2 b3 b3k b3s b4 b5 b6 b7
    have hlk:=lkD'_mp keyE_ndK (a:=nd M (.node v l h)) (isKey_nd _) b4 true (.i .i64 0)
    rw [assoc_nd hM kk M (fun _ h=>h)] at hlk
    simp only [eNdK] at hlk
    simp [b0,b1,hlk,jn_eq]
    by_cases hin:T.node v l h∈M
    ·simp [hin]
     have ha:addT M (mk v l h)=M:=by rw [hm];simp only [addT];exact if_pos hin
     exact ⟨by rw [ha,hm];rfl,by rw [ha];exact ⟨n,o,_,b1,b2,jp,.inr ⟨iu,rfl,b3,b4⟩⟩,b5,b6,b7⟩
    ·have ha:addT M (mk v l h)=M++[.node v l h]:=by rw [hm];simp only [addT];exact if_neg hin
     have hc:Cl (M++[.node v l h]):=Cl_snoc.2 ⟨hM,hin,kk⟩
     have hlk:((nds M).map eNd).length=M.length:=by rw [List.length_map,nds_len]
     obtain ⟨t',S4,q4,l4,p4,m4,z4,zt,k4⟩:=app_liv (k:=3) (n':=false) (xs:=(nds M).map eNd) (ys:=[eNd (nd M (.node v l h))]) (o':=.ro) (by rw [hlk];exact b2) (by rw [hlk];simp [maxLenD];omega) (by simp)
     have c0:=p4 _ _ b0
     have c1:=p4 _ _ b1
     have c4:=m4 _ _ b4
     have c6:∀ j e,pr j→sget S j=some e→sget S4 j=some e:=fun j e hj he=>k4 _ _ (b6 j e hj he) (fun t ht hjt=>jp t ht (hjt ▸ hj))
     have hX:(nds M).map eNd++[eNd (nd M (.node v l h))]=(nds (M++[.node v l h])).map eNd:=by rw [nds_snoc hc,List.map_append];rfl
     rw [hX] at q4
     simp [hin,b0,b1,q4,c0,c1,nds_len]
     rw [wrap64 ⟨by omega,by omega⟩]
     have s1:sget (sset S4 ik (.box [.sl 3 false ((nds (M++[.node v l h])).map eNd) (.tok t'),.mp iu])) ik=_:=sget_sset _ (sget_lt c1)
     have s0:sget (sset S4 ik (.box [.sl 3 false ((nds (M++[.node v l h])).map eNd) (.tok t'),.mp iu])) S.length=_:=(sget_sset_ne _ (by omega)).trans c0
     have su:sget (sset S4 ik (.box [.sl 3 false ((nds (M++[.node v l h])).map eNd) (.tok t'),.mp iu])) iu=_:=(sget_sset_ne _ b3k).trans c4
     have sm:∀ j e,pr j→sget S j=some e→sget (sset S4 ik (.box [.sl 3 false ((nds (M++[.node v l h])).map eNd) (.tok t'),.mp iu])) j=some e:=fun j e hj he=>(sget_sset_ne _ (by rintro rfl;exact hmk hj)).trans (c6 j e hj he)
     have st:sget (sset S4 ik (.box [.sl 3 false ((nds (M++[.node v l h])).map eNd) (.tok t'),.mp iu])) t'=_:=(sget_sset_ne _ (by rintro rfl;rw [c1] at l4;cases l4)).trans l4
     have P5:PresB ik S (sset S4 ik (.box [.sl 3 false ((nds (M++[.node v l h])).map eNd) (.tok t'),.mp iu])):=fun id cs hid e=>(sget_sset_ne _ hid).trans (p4 _ _ (b5 _ _ hid e))
     have z5:(sset S4 ik (.box [.sl 3 false ((nds (M++[.node v l h])).map eNd) (.tok t'),.mp iu])).length=S15.length+1:=by rw [sset_len];exact z4
     simp only [s0]
     generalize sset S4 ik (.box [.sl 3 false ((nds (M++[.node v l h])).map eNd) (.tok t'),.mp iu])=S5 at *
     have hass:assoc (nd M (.node v l h)) (M.map fun s=>(nd M s,code M s))=none:=by rw [assoc_nd hM kk M (fun _ h=>h),if_neg hin]
     have hme:=mentV_new keyE_ndK (ev:=eI) (z:=.i .i64 0) (isKey_nd _) su hass
     simp only [eNdK] at hme
     have hml:(eMap eNdK eI (M.map fun s=>(nd M s,code M s))).length=M.length:=by simp [eMap]
     have hes:estV (sset S5 iu (Ent.map (eMap eNdK eI (M.map fun s=>(nd M s,code M s))++[(D.agg (eNd (nd M (.node v l h))),D.i .i64 0)]))) (.mp iu) (.i .i64 M.length) (.i .i64 ((M.length:Int)+2)) =
       some (sset (sset S5 iu (Ent.map (eMap eNdK eI (M.map fun s=>(nd M s,code M s))++[(D.agg (eNd (nd M (.node v l h))),D.i .i64 0)]))) iu (Ent.map (eMap eNdK eI (M.map fun s=>(nd M s,code M s))++[(D.agg (eNd (nd M (.node v l h))),D.i .i64 ((M.length:Int)+2))]))):=by
      have:=estV_new (v:=.i .i64 ((M.length:Int)+2)) (sget_sset (Ent.map (eMap eNdK eI (M.map fun s=>(nd M s,code M s))++[(.agg (eNd (nd M (.node v l h))),.i .i64 0)])) (sget_lt su))
      rwa [hml] at this
     simp only [ldE_box,rdK_nd,OX_some,deq_self,true_and]
     rw [show (M.map fun s=>(nd M s,code M s)).length=M.length by simp] at hme
     rw [hme]
     simp only [OX_some,ext_eq,List.getElem?_cons_succ,List.getElem?_cons_zero]
     rw [hes]
     simp only [OX_some]
     have hX2:eMap eNdK eI (M.map fun s=>(nd M s,code M s))++[(D.agg (eNd (nd M (.node v l h))),D.i .i64 ((M.length:Int)+2))]=eMap eNdK eI ((M++[T.node v l h]).map fun s=>(nd (M++[T.node v l h]) s,code (M++[T.node v l h]) s)):=by
      rw [maps_snoc hc];simp [eMap,eNdK,eI]
     rw [hX2]
     have lu:=sget_lt su
     refine ⟨?_,?_,?_,?_,?_⟩
     ·rw [ha,hm]
      simp only [code]
      rw [pos_new [] hin]
     ·rw [ha]
      exact ⟨false,.tok t',.mp iu,(sget_sset_ne _ (Ne.symm b3k)).trans ((sget_sset_ne _ (Ne.symm b3k)).trans s1),
       .inr ⟨rfl,t',rfl,(sget_sset_ne _ (by rintro rfl;rw [su] at st;cases st)).trans ((sget_sset_ne _ (by rintro rfl;rw [su] at st;cases st)).trans st)⟩,
       (fun t ht hp=>by injection ht with ht;subst ht;have:=hpl _ hp;omega),.inr ⟨iu,rfl,b3,by rw [sget_sset _ (by rw [sset_len];exact lu)]⟩⟩
     ·intro id cs hid e
      have e5:=P5 _ _ hid e
      have:id≠iu:=by rintro rfl;rw [su] at e5;cases e5
      exact (sget_sset_ne _ this).trans ((sget_sset_ne _ this).trans e5)
     ·intro j e hj he
      have:j≠iu:=by rintro rfl;exact b3 hj
      exact (sget_sset_ne _ this).trans ((sget_sset_ne _ this).trans (sm j e hj he))
     ·rw [sset_len,sset_len];omega
   ·intro k hK
    rcases j3 with ⟨rfl,rfl⟩ | ⟨iu,rfl,j4,j5⟩
    ·have hc:c=true:=hcu.2 rfl
     subst hc
     simp [-sset_cons,show ¬ik=S.length+1 by omega]
     have S15:∀ j,j≠ik→j≠S.length→j≠S.length+1→sget (sset (Ent.map []::Ent.box (eNd (nd [] (.node v l h)))::S) ik (.box [.sl 3 n ((nds []).map eNd) o,.mp (S.length+1)])) j=sget S j:=by
      intro j h1 h2 h3
      rw [sget_sset_ne _ h1]
      simp [h2,h3]
     refine hK _ (S.length+1) _ ?_ ?_ ?_ (fun hp=>by have:=hpl _ hp;omega) (by omega) (by omega) ?_ ?_ ?_ (by rw [sset_len];simp;omega)
     ·rw [sget_sset_ne _ (by omega)];simp
     ·exact sget_sset _ (by simp;omega)
     ·rcases j2 with j2 | ⟨l1,t,l2,l3⟩
      ·exact .inl j2
      ·exact .inr ⟨l1,t,l2,by rw [S15 t (by rintro rfl;rw [j1] at l3;cases l3) (by have:=sget_lt l3;omega) (by have:=sget_lt l3;omega)];exact l3⟩
     ·rw [sget_sset_ne _ (by omega)];simp [eMap]
     ·intro id cs hid e
      have:=sget_lt e
      rw [S15 id hid (by omega) (by omega)];exact e
     ·intro j e hj he
      have:=sget_lt he
      rw [S15 j (by rintro rfl;exact hmk hj) (by omega) (by omega)];exact he
    ·have hc:c=false:=by rw [←Bool.not_eq_true,hcu];intro h;cases h
     subst hc
     simp
     have giu:=sget_lt j5
     exact hK _ iu _ (by simp) (sget_push j1) (j2.push _) j4 (by rintro rfl;rw [j1] at j5;cases j5) (by omega) (sget_push j5) (PresB.push _ _ _) (fun _ _ _ he=>sget_push he) (by simp))
 exact ⟨S',e,h1,h2,h3,h4⟩
end Go.Proofs.YtjlmeikcfdanmaaGreatDoor.DE.V

namespace Go.Proofs.YtjlmeikcfdanmaaGreatDoor.DE.V
open Go BT
theorem v95 (nl nl':Bool) (ord:List Row) {L:List T} (root:Int) (hL:Cl L) (hb:L.length≤1000000) (t:T) (ht:sub L t) (v:Nat) (hv:v<ord.length) :
  isoCall (call dp) 95 [eB nl nl' ord (nds L) root,.i .i64 (code L t),.i .i64 v]=some (.tup [.i .i64 (code L (loT v t)),.i .i64 (code L (hiT v t))]):=by
 apply i95 _ _ _ _ (by simp [noRefL]) rfl
 have h0:=code_nonneg L t
 have h1:=code_lt ht
 have e77:=v77 nl nl' ord (nds L) root (code L t) ⟨by omega,by omega⟩ (by rw [nds_len];exact h1)
 rw [lev_code ht] at e77
 simp only [eB] at e77
 simp [s95,e77]
 by_cases e:top ord.length t=v
 ·have e':(top ord.length t:Int)=v:=by omega
  cases t with
  | leaf b=>simp only [top] at e;omega
  | node w l h=>
   simp only [top] at e e'
   subst e
   have hge:=code_node_ge L w l h
   have hpos:(code L (.node w l h)-2).toNat=pos L (.node w l h):=by simp only [code];omega
   simp [top]
   rw [wrap64 ⟨by omega,by omega⟩,iaD_nds' _ (by omega) (by rw [hpos];exact nds_get ht)]
   simp [nd,loT,hiT]
 ·have e':¬(top ord.length t:Int)=v:=by omega
  cases t with
  | leaf b=>simp [e',loT,hiT]
  | node w l h=>simp only [top] at e;simp [e',loT,hiT,e]
def dI (d:Bool):Int:=if d then 1 else 0
theorem code_dI (M:List T) (d:Bool):code M (.leaf d)=dI d:=by cases d <;> rfl
theorem code_eq_dI (L:List T) (d:Bool):∀ t:T,code L t=dI d↔t = .leaf d
 | .leaf b=>by cases b <;> cases d <;> simp [code,dI]
 | .node v l h=>by
  have:=code_node_ge L v l h
  constructor
  ·intro e;cases d <;> simp [dI] at e <;> omega
  ·intro e;cases e
theorem code_lt2 (L:List T):∀ t:T,code L t<2↔∃ b,t = .leaf b
 | .leaf b=>⟨fun _=>⟨b,rfl⟩,fun _=>code_leaf_lt L b⟩
 | .node v l h=>⟨fun e=>by have:=code_node_ge L v l h;omega,fun ⟨b,e⟩=>by cases e⟩
def ApI (d:Bool) (La Lb:List T) (na na' nb nb':Bool) (oa ob:List Row) (ra rb:Int) (i2 i3 ia ib i6 ik im:Nat) (S:Store):Prop:=
 sget S i2=some (.box [.i .i64 (dI d)])∧sget S i3=some (.box [.mp im])∧sget S ia=some (.box [eRows na oa,eNds na' (nds La),.i .i64 ra])∧sget S ib=some (.box [eRows nb ob,eNds nb' (nds Lb),.i .i64 rb]) ∧
 sget S i6=some (.box [.fn 94 [.bx i2 0,.bx i3 0,.bx ia 0,.bx ib 0,.bx i6 0,.bx ik 0]])
def DnI (n:Nat) (d:Bool) (La Lb M:List T) (done:List (Row × Int)):Prop:=
 (done.map (·.1)).Nodup∧∀ e,e∈done→∃ t s u,sub La t∧sub Lb s∧e=((code La t,code Lb s),code M u)∧sub M u∧IsOp n d t s u
theorem DnI.app {n:Nat} {d:Bool} {La Lb M:List T} {done:List (Row × Int)} (N:List T) (h:DnI n d La Lb M done):DnI n d La Lb (M++N) done:=
 ⟨h.1,fun e he=>by
  obtain ⟨t,s,u,a,b,c,k,l⟩:=h.2 e he
  exact ⟨t,s,u,a,b,by rw [c,code_app N k],sub_app N k,l⟩⟩
theorem DnI.len {n:Nat} {d:Bool} {La Lb M:List T} {done:List (Row × Int)} (h:DnI n d La Lb M done):done.length≤(La.length+2) * (Lb.length+2):=by
 have:=nodup_len (L:=(List.range (La.length+2)).flatMap fun (i:Nat)=>(List.range (Lb.length+2)).map fun (j:Nat)=>((i:Int),(j:Int))) h.1 (by
  intro k hk
  obtain ⟨e,he,rfl⟩:=List.mem_map.1 hk
  obtain ⟨t,s,u,a,b,c,_,_⟩:=h.2 e he
  rw [c]
  have:=code_nonneg La t
  have:=code_lt a
  have:=code_nonneg Lb s
  have:=code_lt b
  refine List.mem_flatMap.2 ⟨(code La t).toNat,List.mem_range.2 (by omega),List.mem_map.2 ⟨(code Lb s).toNat,List.mem_range.2 (by omega),?_⟩⟩
  rw [Int.toNat_of_nonneg (by omega),Int.toNat_of_nonneg (by omega)])
 rw [List.length_map] at this
 refine Nat.le_trans this (Nat.le_of_eq ?_)
 generalize La.length+2=p
 generalize Lb.length+2=q
 induction p with
 | zero=>simp
 | succ p ih=>rw [List.range_succ,List.flatMap_append,List.length_append,ih];simp [Nat.succ_mul]
theorem ApI.pres {d:Bool} {La Lb:List T} {na na' nb nb':Bool} {oa ob:List Row} {ra rb:Int} {i2 i3 ia ib i6 ik im:Nat} {S S':Store} (h:ApI d La Lb na na' nb nb' oa ob ra rb i2 i3 ia ib i6 ik im S) (p:PresB ik S S')
  (k2:i2≠ik) (k3:i3≠ik) (ka:ia≠ik) (kb:ib≠ik) (k6:i6≠ik):ApI d La Lb na na' nb nb' oa ob ra rb i2 i3 ia ib i6 ik im S':=
 ⟨p _ _ k2 h.1,p _ _ k3 h.2.1,p _ _ ka h.2.2.1,p _ _ kb h.2.2.2.1,p _ _ k6 h.2.2.2.2⟩
theorem assoc_mem {α β:Type} [DecidableEq α] {a:α} {b:β}:∀ {es:List (α × β)},assoc a es=some b→(a,b)∈es
 | (k,v)::es,h=>by
  simp only [assoc] at h
  split at h
  ·rename_i e;injection h with h;subst e h;simp
  ·exact List.mem_cons_of_mem _ (assoc_mem h)
theorem sub_addT {M:List T} {v:Nat} {l h:T} (kl:sub M l):sub (addT M (mk v l h)) (mk v l h):=by
 unfold mk
 split
 ·revert kl
  cases l with
  | leaf _=>exact fun k=>k
  | node _ _ _=>intro k;simp only [addT,sub] at *;rw [if_pos k];exact k
 ·simp only [addT,sub]
  split
  ·assumption
  ·simp
theorem addT_ext {M:List T} (hM:Cl M) {v:Nat} {l h:T} (kl:sub M l) (kh:sub M h):(∃ N,addT M (mk v l h)=M++N)∧Cl (addT M (mk v l h))∧(addT M (mk v l h)).length≤M.length+1:=by
 unfold mk
 split
 ·have ha:addT M l=M:=by
   revert kl
   cases l with
   | leaf _=>intro _;rfl
   | node _ _ _=>intro k;simp only [addT];exact if_pos k
  rw [ha];exact ⟨⟨[],by simp⟩,hM,by omega⟩
 ·simp only [addT]
  split
  ·exact ⟨⟨[],by simp⟩,hM,by omega⟩
  ·rename_i hn;exact ⟨⟨_,rfl⟩,Cl_snoc.2 ⟨hM,hn,kl,kh⟩,by simp⟩
theorem wfs {n:Nat} {L:List T} (h:∀ t,t∈L→Wf n t):∀ {t:T},sub L t→Wf n t
 | .leaf _,_=>trivial
 | .node _ _ _,k=>h _ k
theorem v94 (d:Bool) {La Lb:List T} (hLa:Cl La) (hLb:Cl Lb) (na na' nb nb':Bool) (oa ob:List Row) (ra rb:Int) (i2 i3 ia ib i6 ik im:Nat)
  (wa:∀ t,t∈La→Wf oa.length t) (wb:∀ t,t∈Lb→Wf oa.length t) (hab:ob.length=oa.length) (hz:(La.length+2) * (Lb.length+2)≤1000000)
  (za:La.length≤4096) (zb:Lb.length≤4096)
  (k2:i2≠ik) (k3:i3≠ik) (ka:ia≠ik) (kb:ib≠ik) (k6:i6≠ik):∀ (k:Nat) (t s:T) (M:List T) (done:List (Row × Int)) (S:Store),t.size+s.size<k→sub La t→sub Lb s→Cl M→M.length≤done.length →
  ApI d La Lb na na' nb nb' oa ob ra rb i2 i3 ia ib i6 ik im S→sget S im=some (.map (eMap eRowK eI done))→DnI oa.length d La Lb M done→MkI ik (· = im) M S →
  ∃ u M' done' S',call dp 94 [.i .i64 (code La t),.i .i64 (code Lb s),.bx i2 0,.bx i3 0,.bx ia 0,.bx ib 0,.bx i6 0,.bx ik 0] S=some (.i .i64 (code M' u),S')∧IsOp oa.length d t s u∧sub M' u∧Cl M'∧(∃ N,M'=M++N) ∧
   M'.length≤done'.length∧sget S' im=some (.map (eMap eRowK eI done'))∧DnI oa.length d La Lb M' done'∧MkI ik (· = im) M' S'∧PresB ik S S' ∧
   ∀ e,e∈done'→e∈done∨∃ t' s',sub La t'∧sub Lb s'∧e.1=(code La t',code Lb s')∧t'.size+s'.size≤t.size+s.size:=by
 intro k
 induction k with
 | zero=>intro t s _ _ _ h;omega
 | succ k ih=>
  intro t s M done S hk ht hs hM hMd hA him hD hI
  let P:D→Store→Prop:=fun r S'=>∃ u M' done',r = .i .i64 (code M' u)∧IsOp oa.length d t s u∧sub M' u∧Cl M'∧(∃ N,M'=M++N) ∧
   M'.length≤done'.length∧sget S' im=some (.map (eMap eRowK eI done'))∧DnI oa.length d La Lb M' done'∧MkI ik (· = im) M' S'∧PresB ik S S' ∧
   ∀ e,e∈done'→e∈done∨∃ t' s',sub La t'∧sub Lb s'∧e.1=(code La t',code Lb s')∧t'.size+s'.size≤t.size+s.size
  obtain ⟨r,S',e,u,M',done',rfl,h⟩:=f94 (.i .i64 (code La t)) (.i .i64 (code Lb s)) (.bx i2 0) (.bx i3 0) (.bx ia 0) (.bx ib 0) (.bx i6 0) (.bx ik 0) S P (by
   have stay:∀ u,IsOp oa.length d t s u→sub M u→P (.i .i64 (code M u)) S:=fun u hu hs=>⟨u,M,done,rfl,hu,hs,hM,⟨[],by simp⟩,hMd,him,hD,hI,PresB.refl _ _,fun e he=>.inl he⟩
   simp [s94,hA.1]
   by_cases e1:t = .leaf d
   ·subst e1
    simp [code_dI]
    have:=stay (.leaf d) IsOp_dom_l trivial
    rwa [code_dI] at this
   have f1:¬code La t=dI d:=fun h=>e1 ((code_eq_dI La d t).1 h)
   by_cases e2:s = .leaf d
   ·subst e2
    simp [f1,code_dI]
    have:=stay (.leaf d) IsOp_dom_r trivial
    rwa [code_dI] at this
   have f2:¬code Lb s=dI d:=fun h=>e2 ((code_eq_dI Lb d s).1 h)
   have wt:=wfs wa ht
   have ws:=wfs wb hs
   by_cases e3:code La t<2∧code Lb s<2
   ·obtain ⟨b,rfl⟩:=(code_lt2 La t).1 e3.1
    obtain ⟨c,rfl⟩:=(code_lt2 Lb s).1 e3.2
    have hbd:b = !d:=by cases b <;> cases d <;> simp at e1 ⊢
    have hcd:c = !d:=by cases c <;> cases d <;> simp at e2 ⊢
    subst hbd hcd
    have hw:IntKind.i64.wrap (1-dI d)=dI (!d):=by cases d <;> rfl
    simp [f1,f2,e3.1,e3.2,hw]
    have:=stay (.leaf (!d)) IsOp_both trivial
    rwa [code_dI] at this
   have hv:min (top oa.length t) (top oa.length s)<oa.length:=by
    rcases Nat.lt_or_ge (min (top oa.length t) (top oa.length s)) oa.length with h | h
    ·exact h
    ·exfalso
     apply e3
     constructor
     ·rw [code_lt2]
      cases t with
      | leaf b=>exact ⟨b,rfl⟩
      | node v _ _=>have:=wt.1;simp only [top] at h;omega
     ·rw [code_lt2]
      cases s with
      | leaf b=>exact ⟨b,rfl⟩
      | node v _ _=>have:=ws.1;simp only [top] at h;omega
   have hkey:D.agg [.i .i64 (code La t),.i .i64 (code Lb s)]=eRowK (code La t,code Lb s):=rfl
   have hlk:=lkD'_mp keyE_rowK (a:=(code La t,code Lb s)) (isKey_row _) him true (.i .i64 0)
   have a0:=code_nonneg La t
   have a1:=code_lt ht
   have b0:=code_nonneg Lb s
   have b1:=code_lt hs
   have e77a:=v77 na na' oa (nds La) ra (code La t) ⟨by omega,by omega⟩ (by rw [nds_len];exact a1)
   have e77b:=v77 nb nb' ob (nds Lb) rb (code Lb s) ⟨by omega,by omega⟩ (by rw [nds_len];exact b1)
   rw [lev_code ht] at e77a
   rw [lev_code hs,hab] at e77b
   generalize hvd:min (top oa.length t) (top oa.length s)=v at *
   have hmin:(if (top oa.length s:Int)<top oa.length t then (top oa.length s:Int) else top oa.length t)=v:=by split <;> omega
   have e95a:=v95 na na' oa ra hLa (by omega) t ht v hv
   have e95b:=v95 nb nb' ob rb hLb (by omega) s hs v (by omega)
   simp only [eB] at e77a e77b e95a e95b
   have g:¬(code La t<2∧code Lb s<2):=e3
   have g':(¬code La t<2)∨(code La t<2∧¬code Lb s<2):=by
    by_cases q:code La t<2
    ·exact .inr ⟨q,fun k=>g ⟨q,k⟩⟩
    ·exact .inl q
   have szs:=lo_size v t
   have szs':=lo_size v s
   have szh:=hi_size v t
   have szh':=hi_size v s
   have slt:(loT v t).size+(loT v s).size<t.size+s.size∧(hiT v t).size+(hiT v s).size<t.size+s.size:=by
    rcases Nat.le_total (top oa.length t) (top oa.length s) with q | q
    ·have ev:top oa.length t=v:=by omega
     have:=lo_size_lt ev hv
     have:=hi_size_lt ev hv
     omega
    ·have ev:top oa.length s=v:=by omega
     have:=lo_size_lt ev hv
     have:=hi_size_lt ev hv
     omega
   cases ha:assoc (code La t,code Lb s) done with
   | some z=>
    rw [ha] at hlk
    obtain ⟨t',s',u,q1,q2,q3,q4,q5⟩:=hD.2 _ (assoc_mem ha)
    simp only [Prod.mk.injEq] at q3
    obtain ⟨⟨q6,q7⟩,q8⟩:=q3
    have:=code_inj ht q1 q6
    subst this
    have:=code_inj hs q2 q7
    subst this
    have fin:=stay u q5 q4
    rcases g' with g1 | ⟨g1,g2⟩
    ·simp [f1,f2,g1,hA.2.1,bldV,hkey,hlk,q8]
     exact fin
    ·simp [f1,f2,g1,g2,hA.2.1,bldV,hkey,hlk,q8]
     exact fin
   | none=>
    rw [ha] at hlk
    obtain ⟨A2,A3,Aa,Ab,A6⟩:=hA
    have hmin':(if top oa.length s<top oa.length t then (top oa.length s:Int) else top oa.length t)=v:=by split <;> omega
    have hA:ApI d La Lb na na' nb nb' oa ob ra rb i2 i3 ia ib i6 ik im S:=⟨A2,A3,Aa,Ab,A6⟩
    have sum:t.size+s.size≤k:=by omega
    obtain ⟨u1,M1,d1,S1,q1,o1,w1,c1,⟨N1,n1⟩,l1,m1,D1,I1,P1,x1⟩:=ih (loT v t) (loT v s) M done S (by omega) (lo_sub hLa v ht) (lo_sub hLb v hs) hM hMd hA him hD hI
    have hA1:=hA.pres P1 k2 k3 ka kb k6
    obtain ⟨u2,M2,d2,S2,q2,o2,w2,c2,⟨N2,n2⟩,l2,m2,D2,I2,P2,x2⟩:=ih (hiT v t) (hiT v s) M1 d1 S1 (by omega) (hi_sub hLa v ht) (hi_sub hLb v hs) c1 l1 hA1 m1 D1 I1
    have hA2:=hA1.pres P2 k2 k3 ka kb k6
    have w1':sub M2 u1:=by rw [n2];exact sub_app N2 w1
    have hc1:code M1 u1=code M2 u1:=by rw [n2,code_app N2 w1]
    have hfresh:∀ e,e∈d2→e.1≠(code La t,code Lb s):=by
     intro e he e'
     have big:∀ t' s',sub La t'→sub Lb s'→e.1=(code La t',code Lb s')→t'.size+s'.size=t.size+s.size:=by
      intro t' s' a b c
      rw [e'] at c
      simp only [Prod.mk.injEq] at c
      rw [code_inj ht a c.1,code_inj hs b c.2]
     rcases x2 e he with h | ⟨t',s',a,b,c,z⟩
     ·rcases x1 e h with h | ⟨t',s',a,b,c,z⟩
      ·exact assoc_none.1 ha e h e'
      ·have:=big t' s' a b c;omega
     ·have:=big t' s' a b c;omega
    have hnone:assoc (code La t,code Lb s) d2=none:=assoc_none.2 hfresh
    have hnd2:((d2.map (·.1))++[(code La t,code Lb s)]).Nodup:=nodup_snoc.2 ⟨D2.1,fun h=>by
     obtain ⟨e,he,e'⟩:=List.mem_map.1 h
     exact hfresh e he e'⟩
    have hop:IsOp oa.length d t s (mk v u1 u2):=by
     subst hvd
     exact IsOp_mk wt ws hv o1 o2
    have hlen:d2.length+1≤1000000:=by
     obtain ⟨a,b,c⟩:=addT_ext c2 (v:=v) w1' w2
     obtain ⟨N3,n3⟩:=a
     have hw3:=sub_addT (v:=v) (h:=u2) w1'
     have:DnI oa.length d La Lb (addT M2 (mk v u1 u2)) (d2++[((code La t,code Lb s),code (addT M2 (mk v u1 u2)) (mk v u1 u2))]):=by
      refine ⟨by simpa using hnd2,fun e he=>?_⟩
      rcases List.mem_append.1 he with he | he
      ·rw [n3];exact (D2.app N3).2 e he
      ·rw [List.mem_singleton.1 he];exact ⟨t,s,_,ht,hs,rfl,hw3,hop⟩
     have:=this.len
     simp at this
     omega
    have hmk:im≠ik:=by
     rintro rfl
     obtain ⟨_,_,_,b,_⟩:=I2
     rw [m2] at b;cases b
    obtain ⟨S3,q3,I3,P3,m3,_⟩:=v80 ik (· = im) c2 (by omega) v u1 u2 w1' w2 S2 I2 (Ne.symm hmk) (fun j hj=>by have:=sget_lt m2;have hj':j=im:=hj;omega)
    have m3:=m3 im _ rfl m2
    obtain ⟨⟨N3,n3⟩,c3,l3⟩:=addT_ext c2 (v:=v) w1' w2
    have hw3:=sub_addT (v:=v) (h:=u2) w1'
    generalize addT M2 (mk v u1 u2)=M3 at *
    have hA3:=hA2.pres P3 k2 k3 ka kb k6
    have hmu:=muD'_new keyE_rowK (ev:=eI) (a:=(code La t,code Lb s)) (b:=code M3 (mk v u1 u2)) (isKey_row _) m3 hnone
    have hs4:=sget_sset (Ent.map (eMap eRowK eI (d2++[((code La t,code Lb s),code M3 (mk v u1 u2))]))) (sget_lt m3)
    have hlk4:=lkD'_mp keyE_rowK (a:=(code La t,code Lb s)) (isKey_row _) hs4 false (.i .i64 0)
    rw [assoc_app,hnone] at hlk4
    simp [assoc] at hlk4
    have i3m:i3≠im:=by rintro rfl;rw [hA3.2.1] at m3;cases m3
    have hA4:sget (sset S3 im (Ent.map (eMap eRowK eI (d2++[((code La t,code Lb s),code M3 (mk v u1 u2))])))) i3=_:=(sget_sset_ne _ i3m).trans hA3.2.1
    have fin:P (.i .i64 (code M3 (mk v u1 u2))) (sset S3 im (Ent.map (eMap eRowK eI (d2++[((code La t,code Lb s),code M3 (mk v u1 u2))])))):=by
     refine ⟨_,M3,_,rfl,hop,hw3,c3,⟨N1++(N2++N3),by rw [n3,n2,n1];simp⟩,by simp;omega,hs4,?_,?_,?_,?_⟩
     ·refine ⟨by simpa using hnd2,fun e he=>?_⟩
      rcases List.mem_append.1 he with he | he
      ·rw [n3];exact (D2.app N3).2 e he
      ·rw [List.mem_singleton.1 he];exact ⟨t,s,_,ht,hs,rfl,hw3,hop⟩
     ·obtain ⟨n',o',u',j1,j2,jp,j3⟩:=I3
      have ne:∀ j e,sget S3 j=some e→(∀ es,e ≠ .map es)→j≠im:=by rintro j e h1 h2 rfl;rw [m3] at h1;injection h1 with h1;exact h2 _ h1.symm
      refine ⟨n',o',u',(sget_sset_ne _ (ne _ _ j1 (by intro es h;cases h))).trans j1,?_,jp,?_⟩
      ·rcases j2 with j2 | ⟨a,b,c,e⟩
       ·exact .inl j2
       ·exact .inr ⟨a,b,c,(sget_sset_ne _ (ne _ _ e (by intro es h;cases h))).trans e⟩
      ·rcases j3 with j3 | ⟨iu,a,b,c⟩
       ·exact .inl j3
       ·exact .inr ⟨iu,a,b,(sget_sset_ne _ b).trans c⟩
     ·intro id cs hid e
      have e3:=P3 _ _ hid (P2 _ _ hid (P1 _ _ hid e))
      exact (sget_sset_ne _ (by rintro rfl;rw [m3] at e3;cases e3)).trans e3
     ·intro e he
      rcases List.mem_append.1 he with he | he
      ·rcases x2 e he with h | ⟨t',s',a,b,c,z⟩
       ·rcases x1 e h with h | ⟨t',s',a,b,c,z⟩
        ·exact .inl h
        ·exact .inr ⟨t',s',a,b,c,by omega⟩
       ·exact .inr ⟨t',s',a,b,c,by omega⟩
      ·rw [List.mem_singleton.1 he];exact .inr ⟨t,s,ht,hs,rfl,Nat.le_refl _⟩
    rw [hc1] at q1
    simp only [eRowK,eRow,eI] at hlk hmu hlk4
    rcases g' with g1 | ⟨g1,g2⟩
    ·simp [f1,f2,g1,A2,A3,Aa,Ab,A6,bldV,hlk,e77a,e77b,hmin',e95a,e95b,q1,q2,q3,hA1.2.2.2.2,hA2.2.1,hA3.2.1,hmu,hA4,hlk4]
     exact fin
    ·simp [f1,f2,g1,g2,A2,A3,Aa,Ab,A6,bldV,hlk,e77a,e77b,hmin',e95a,e95b,q1,q2,q3,hA1.2.2.2.2,hA2.2.1,hA3.2.1,hmu,hA4,hlk4]
     exact fin)
  exact ⟨u,M',done',S',e,h⟩
end Go.Proofs.YtjlmeikcfdanmaaGreatDoor.DE.V

namespace Go.Proofs.YtjlmeikcfdanmaaGreatDoor.DE
open Go
variable (cf:CallF) (a0 a2 a3 a4 a20 a21 a22 a23:D) (S:Store) (Q:QT) (Post:PT)
def s23_r0 (cf:CallF) (a2 a3 a4 a20 a21 a22 a23:D) (S:Store) (Q:QT):Prop:=
 OX (ldD S 3 true a4) fun x1=>OX (stD S 3 true a2 x1) fun S3=>Q .ret (mkf 44 [(2,a2),(3,.top),(4,.top),(20,.top),(21,.top),(22,.top),(23,.top)]) S3
theorem e23_r0:wp cf c23_r0 (mkf 44 [(2,a2),(3,a3),(4,a4),(20,a20),(21,a21),(22,a22),(23,a23)]) S Q=s23_r0 cf a2 a3 a4 a20 a21 a22 a23 S Q:=wpS_of (by kernel_rfl)
def s23_0 (cf:CallF) (a2 a3 a4 a20 a21 a22 a23:D) (S:Store) (Q:QT):Prop:=
 OX (binD .lss .num a22 a21) fun x4=>WB x4
 (OX (iaD 3 a20 a22) fun x5=>OX (ldD S 3 true x5) fun x6=>al [.i .i64 0,.i .i64 0,.i .i64 0] S fun x7 S8=>OX (stD S8 3 true x7 x6) fun S10=>OX (faD 1 a4) fun x11=>OX (ldD S10 1 false x11) fun x12=>OX (faD 0 x7) fun x13=>OX (ldD S10 1 false x13) fun x14=>OX (faD 1 x7) fun x15=>OX (ldD S10 1 false x15) fun x16=>OX (fnD a3) fun q18=>OX (isoCall cf q18.1 ([x16]++q18.2)) fun x17=>OX (faD 2 x7) fun x19=>OX (ldD S10 1 false x19) fun x20=>OX (fnD a3) fun q22=>OX (isoCall cf q22.1 ([x20]++q22.2)) fun x21=>OX (bldV [.i .i64 0,.i .i64 0,.i .i64 0] [(0,1,false,x14),(1,1,false,x17),(2,1,false,x21)]) fun x23=>OX (cellsV 3 true [(.agg x23)]) fun x24=>OX (appD 3 false x12 (.sl 3 false x24 .ro) S10) fun p26=>OX (faD 1 a4) fun x27=>OX (stD p26.2 1 false x27 p26.1) fun S29=>OX (binD .add .num a22 (.i .i64 1)) fun x30=>Q .normal (mkf 44 [(2,a2),(3,a3),(4,a4),(20,a20),(21,a21),(22,x30),(23,.top)]) S29)
 (Q (.exit 0) (mkf 44 [(2,a2),(3,a3),(4,a4),(20,a20),(21,a21),(22,a22),(23,x4)]) S)
theorem e23_0:wp cf c23_0 (fkill (mkf 44 [(2,a2),(3,a3),(4,a4),(20,a20),(21,a21),(22,a22),(23,a23)]) []) S Q=s23_0 cf a2 a3 a4 a20 a21 a22 a23 S Q:=wpS_of (by kernel_rfl)
def s23 (cf:CallF) (a0:D) (S:Store) (Post:PT):Prop:=
 bxx 3 true a0 S fun x31 S32=>al [.sl 2 true [] .ro,.sl 3 true [] .ro,.i .i64 0] S32 fun x33 S34=>OX (ldD S34 3 true x31) fun x35=>OX (isoCall cf 33 [x35]) fun x36=>OX (unD .not x36) fun x37=>WB x37
 (OX (bldV [.sl 2 true [] .ro,.sl 3 true [] .ro,.i .i64 0] []) fun x38=>OX (stD S34 3 true x33 (.agg x38)) fun S40=>OX (ldc S40 3 true x33) fun x41=>Post x41 S40)
 (OX (faD 0 x31) fun x42=>OX (ldD S34 1 false x42) fun x43=>OX (isoCall cf 49 [x43]) fun x44=>OX (faD 2 x31) fun x45=>OX (ldD S34 1 false x45) fun x46=>OX (fnD (.fn 55 [])) fun q48=>OX (isoCall cf q48.1 ([x46]++q48.2)) fun x47=>OX (bldV [.sl 2 true [] .ro,.sl 3 true [] .ro,.i .i64 0] [(0,1,false,x44),(2,1,false,x47)]) fun x49=>al [.sl 2 true [] .ro,.sl 3 true [] .ro,.i .i64 0] S34 fun x50 S51=>OX (ldD S51 1 false x42) fun x52=>deq x52 x43=true ∧
 (OX (ldD S51 1 false x45) fun x53=>deq x53 x46=true ∧
 (OX (stD S51 3 true x50 (.agg x49)) fun S55=>OX (faD 1 x31) fun x56=>OX (ldD S55 1 false x56) fun x57=>OX (lenD false x57) fun x58=>W cf (.loop [] c23_0) (mkf 44 [(2,x33),(3,(.fn 55 [])),(4,x50),(20,x57),(21,x58),(22,(.i .i64 0)),(23,.top)]) S55 (Qblk 0 (QS cf c23_r0 (FinK [.cell 2 3 true] Post))))))
theorem e23:wp cf c23 (frame0 d23 [a0]) S (FinK d23.res Post)=s23 cf a0 S Post:=wpS_of (by kernel_rfl)
theorem i23 (a0:D) (r:D) (ha:noRefL (stripL [a0])=true) (hr:noRef r=true) (h:s23 (call dp) (strip a0) [] fun d _=>stripT d=r):isoCall (call dp) 23 [a0]=some r:=iso_s (f:=d23) rfl ⟨rfl,by decide⟩ ha hr (by rw [←e23] at h;exact h)
def s55 (cf:CallF) (a0:D) (S:Store) (Post:PT):Prop:=
 OX (binD .lss .num a0 (.i .i64 2)) fun x1=>WB x1
 (OX (binD .sub .num (.i .i64 1) a0) fun x2=>Post x2 S)
 (Post a0 S)
theorem e55:wp cf c55 (frame0 d55 [a0]) S (FinK d55.res Post)=s55 cf a0 S Post:=wpS_of (by kernel_rfl)
theorem i55 (a0:D) (r:D) (ha:noRefL (stripL [a0])=true) (hr:noRef r=true) (h:s55 (call dp) (strip a0) [] fun d _=>stripT d=r):isoCall (call dp) 55 [a0]=some r:=iso_s (f:=d55) rfl ⟨rfl,by decide⟩ ha hr (by rw [←e55] at h;exact h)
end Go.Proofs.YtjlmeikcfdanmaaGreatDoor.DE

namespace Go.Proofs.YtjlmeikcfdanmaaGreatDoor.DE.V
open Go BT
def ixOf (r:Row):List Row→Int
 | []=>-1
 | x::l=>if x=r then 0 else if ixOf r l<0 then -1 else ixOf r l+1
theorem ixOf_none {r:Row}:∀ {l:List Row},r ∉ l→ixOf r l = -1
 | [],_=>rfl
 | x::l,h=>by
  simp only [List.mem_cons,not_or] at h
  simp [ixOf,Ne.symm h.1,ixOf_none h.2]
theorem ixOf_found {r:Row}:∀ {l:List Row} {k:Nat},l[k]? = some r→r ∉ l.take k→ixOf r l=k
 | [],_,h,_=>by simp at h
 | x::l,0,h,_=>by simp at h;simp [ixOf,h]
 | x::l,k+1,h,hn=>by
  simp only [List.take_succ_cons,List.mem_cons,not_or] at hn
  have:=ixOf_found (l:=l) (k:=k) (by simpa using h) hn.2
  simp [ixOf,Ne.symm hn.1,this]
  omega
theorem ixOf_lt (r:Row):∀ l:List Row,ixOf r l<l.length∧-1≤ixOf r l
 | []=>by simp [ixOf]
 | x::l=>by
  have:=ixOf_lt r l
  simp only [ixOf,List.length_cons]
  split
  ·omega
  ·split <;> omega
theorem v50 (nl:Bool) (l:List Row) (r:Row) (hb:Bd l.length):isoCall (call dp) 50 [eRows nl l,.agg (eRow r)]=some (.i .i64 (ixOf r l)):=by
 apply i50 _ _ _ (by simp [noRefL]) rfl
 simp [s50]
 let J:Nat→List D→Store→Prop:=fun q fr S=>∃ k a4 a9,k+q=l.length∧r ∉ l.take k∧S=[Ent.box (eRow r)]∧fr=mkf 19 [(0,eRows nl l),(3,.bx 0 0),(4,a4),(7,.i .i64 l.length),(8,.i .i64 k),(9,a9)]
 refine W_loop J ?_ l.length _ _ ⟨0,_,_,by simp,by simp,rfl,rfl⟩
 rintro q fr S ⟨k,a4,a9,hk,hn,rfl,rfl⟩
 rw [←wp_W,e50_0]
 simp [s50_0]
 by_cases h:k<l.length
 ·obtain ⟨x,hx⟩:∃ x,l[k]? = some x:=⟨_,List.getElem?_eq_getElem (by omega)⟩
  simp [h,iaD_rows _ hx]
  by_cases e:r=x
  ·subst e
   simp [ixOf_found hx hn]
  ·simp [e,wrapS (hb.lt (Nat.le_of_lt h))]
   refine ⟨q-1,by omega,k+1,_,_,by omega,?_,rfl,rfl⟩
   rw [take_snoc hx]
   simp [hn,e]
 ·have:l.take k=l:=List.take_of_length_le (by omega)
  rw [this] at hn
  simp [h,e50_r0,s50_r0,ixOf_none hn]
def zB:D:=eB true true [] [] 0
open Classical in
theorem v13 (nl:Bool) (ord:List Row) (c:Bool) (hn:nl=true→ord=[]) (hb:Bd ord.length):isoCall (call dp) 13 [eRows nl ord,.b c]=some (if OrdOk ord∧ord.length≤4096 then eB nl true ord [] (if c then 1 else 0) else zB):=by
 apply i13 _ _ _ (by simp [noRefL]) (by split <;> simp [zB])
 simp only [s13]
 by_cases h:OrdOk ord∧ord.length≤4096
 ·have e48:=v48 nl ord hb
  simp only [h,and_self,decide_true] at e48
  simp [e48,v49 nl ord hn (by simp [maxLenD];omega),bldV,jn_eq,h]
  cases c <;> simp <;> rfl
 ·have e48:=v48 nl ord hb
  simp only [h,decide_false] at e48
  simp [e48,h]
  rfl
open Classical in
theorem v14 (nl:Bool) (ord:List Row) (r:Row) (hn:nl=true→ord=[]) (hb:Bd ord.length):isoCall (call dp) 14 [eRows nl ord,.agg (eRow r)]=some (if OrdOk ord∧ord.length≤4096 then
  (if ixOf r ord<0 then .tup [zB,.i .i64 4] else .tup [eB nl false ord [(ixOf r ord,0,1)] 2,.i .i64 0]) else .tup [zB,.i .i64 1]):=by
 apply i14 _ _ _ (by simp [noRefL]) (by split <;> (try split) <;> simp [zB,noRef,noRefL])
 have e48:=v48 nl ord hb
 have e50:=v50 nl ord r hb
 by_cases h:OrdOk ord∧ord.length≤4096
 ·simp only [h,and_self,decide_true] at e48
  by_cases h2:ixOf r ord<0
  ·simp [s14,e48,e50,h,h2]
   rfl
  ·simp [s14,e48,e50,h,h2,v49 nl ord hn (by simp [maxLenD];omega),bldV]
   rfl
 ·simp only [h,decide_false] at e48
  simp [s14,e48,h]
  rfl
theorem v55 (r:Int) (h:0≤r):isoCall (call dp) 55 [.i .i64 r]=some (.i .i64 (swp r)):=by
 apply i55 _ _ rfl rfl
 simp [s55,swp]
 split
 ·rw [wrap64 ⟨by omega,by omega⟩]
 ·intro h2;omega
end Go.Proofs.YtjlmeikcfdanmaaGreatDoor.DE.V

namespace Go.Proofs.YtjlmeikcfdanmaaGreatDoor.DE.V
open Go BT
def VT (ord:List Row) (ns:List Nd) (root:Int) (t:T):Prop:=
 (OrdOk ord∧ord.length≤4096)∧Wf ord.length t∧ns=nds (post t [])∧root=code (post t []) t∧(post t []).length≤4096
theorem post_nil (t:T):Cl (post t [])∧sub (post t []) t∧∀ n,Wf n t→∀ s,s∈post t []→Wf n s:=by
 obtain ⟨N,e,c,s,p,_⟩:=post_spec t [] Cl_nil
 rw [List.nil_append] at e c s
 rw [e]
 exact ⟨c,s,fun n hw s hs=>p _ (Wf_her n) hw s hs⟩
theorem VB_VT {ord:List Row} {ns:List Nd} {root:Int}:VB ord ns root↔∃ t,VT ord ns root t:=by
 constructor
 ·rintro ⟨ho,hl,⟨hs,_,_⟩,t,e1,e2⟩
  obtain ⟨L,hL,e,hw⟩:=Sh_trees hs
  obtain ⟨c,s,_⟩:=post_nil t
  have:L=post t []:=nds_inj hL c (by rw [←e,e1])
  subst this
  refine ⟨t,ho,wfs hw s,e1,e2,?_⟩
  rw [e1,nds_len] at hl;exact hl
 ·rintro ⟨t,ho,hw,rfl,rfl,hl⟩
  obtain ⟨c,s,w⟩:=post_nil t
  refine ⟨ho,by rw [nds_len];exact hl,⟨trees_Sh c (w _ hw),code_nonneg _ _,by rw [nds_len];exact code_lt s⟩,t,rfl,rfl⟩
theorem strip_idem:∀ d:D,strip (strip d)=strip d:=by
 intro d
 cases d with
 | agg cs=>
  simp only [strip]
  congr 1
  induction cs with
  | nil=>rfl
  | cons c cs ih=>
   simp only [strip1L,ih]
   congr 1
   cases c <;> rfl
 | _=>rfl
theorem stripL_idem:∀ l:List D,stripL (stripL l)=stripL l
 | []=>rfl
 | x::l=>by simp [stripL,strip_idem,stripL_idem l]
theorem isoCall_strip (cf:CallF) (g:Nat) (args:List D):isoCall cf g args=isoCall cf g (stripL args):=by
 simp only [isoCall,stripL_idem]
theorem small {n:Nat} (h:n≤7) {t:T} (w:Wf n t):(post t []).length≤127:=by
 have a:=post_len w
 have b:2 ^ n≤2 ^ 7:=Nat.pow_le_pow_right (by omega) h
 simp at b
 omega
open Classical in
theorem v54 (d:Bool) (na na' nb nb':Bool) (oa:List Row) (xa xb:List Nd) (ra rb:Int) (t s:T) (ha:VT oa xa ra t) (hb:VT oa xb rb s) (h7:oa.length≤7) (hn:na=true→oa=[]) (hn':nb=true→oa=[]) :
  ∃ n:Bool,(n=true→post (opT oa.length d t s) []=[])∧isoCall (call dp) 54 [eB na na' oa xa ra,eB nb nb' oa xb rb,.i .i64 (dI d)] =
   some (.tup [eB na n oa (nds (post (opT oa.length d t s) [])) (code (post (opT oa.length d t s) []) (opT oa.length d t s)),.i .i64 0]):=by
 have hva:VB oa xa ra:=VB_VT.2 ⟨t,ha⟩
 have hvb:VB oa xb rb:=VB_VT.2 ⟨s,hb⟩
 have za:=small h7 ha.2.1
 have zb:=small h7 hb.2.1
 obtain ⟨_,wt,rfl,rfl,_⟩:=ha
 obtain ⟨_,ws,rfl,rfl,_⟩:=hb
 obtain ⟨ca,sa,pa⟩:=post_nil t
 obtain ⟨cb,sb,pb⟩:=post_nil s
 have e33a:=v33 na na' oa (nds (post t [])) (code (post t []) t) hn (by rw [nds_len];unfold Bd;omega) (by unfold Bd;omega)
 have e33b:=v33 nb nb' oa (nds (post s [])) (code (post s []) s) hn' (by rw [nds_len];unfold Bd;omega) (by unfold Bd;omega)
 have e74:=v74 na nb oa oa (by unfold Bd;omega)
 simp only [hva,hvb,decide_true,eB] at e33a e33b e74
 let S0:Store:=[Ent.box [.fn 94 [.bx 2 0,.bx 6 0,.bx 0 0,.bx 1 0,.bx 7 0,.bx 4 0]],.box [.mp 5],.map [],.box [.sl 3 true [] .ro,.nilm],.box [.sl 2 true [] .ro,.sl 3 true [] .ro,.i .i64 0],.box [.i .i64 (dI d)],
  .box [eRows nb oa,eNds nb' (nds (post s [])),.i .i64 (code (post s []) s)],.box [eRows na oa,eNds na' (nds (post t [])),.i .i64 (code (post t []) t)]]
 obtain ⟨u,M',done',S',q,o,w,c,_,l,_,hD,I,Pb,_⟩:=v94 d ca cb na na' nb nb' oa oa (code (post t []) t) (code (post s []) s) 2 6 0 1 7 4 5 (pa _ wt) (pb _ ws) rfl
  (Nat.le_trans (Nat.mul_le_mul (show (post t []).length+2≤200 by omega) (show (post s []).length+2≤200 by omega)) (by decide)) (by omega) (by omega) (by decide) (by decide) (by decide) (by decide) (by decide)
  (t.size+s.size+1) t s [] [] S0 (by omega) sa sb Cl_nil (by simp) ⟨rfl,rfl,rfl,rfl,rfl⟩ rfl ⟨by simp,fun _ h=>by cases h⟩ ⟨true,.ro,.nilm,rfl,.inl ⟨rfl,rfl,rfl⟩,(fun _ h=>by cases h),.inl ⟨rfl,rfl⟩⟩
 have hu:=IsOp_opT wt ws o
 subst hu
 have hpr:((post t []).length+2) * ((post s []).length+2)≤1000000:=Nat.le_trans (Nat.mul_le_mul (show (post t []).length+2≤200 by omega) (show (post s []).length+2≤200 by omega)) (by decide)
 have hM:M'.length≤1000000:=Nat.le_trans l (Nat.le_trans hD.len hpr)
 obtain ⟨n1,o1,u1,j1,j2,_⟩:=I
 obtain ⟨n,hn2,e72⟩:=v72 na n1 oa c hM (opT oa.length d t s) w hn (by simp [maxLenD];omega)
 have zu:=small h7 (opT_wf oa.length d t s)
 refine ⟨n,hn2,?_⟩
 have p0:=Pb 0 _ (by decide) (show sget S0 0=some (.box [eRows na oa,eNds na' (nds (post t [])),.i .i64 (code (post t []) t)]) from rfl)
 have p3:=Pb 3 _ (by decide) (show sget S0 3=some (.box [.sl 2 true [] .ro,.sl 3 true [] .ro,.i .i64 0]) from rfl)
 have l3:=sget_lt p3
 rw [isoCall_strip] at e72
 have e72':=isoCall_strip (call dp) 72 [eRows na oa,.sl 3 n1 ((nds M').map eNd) o1,.i .i64 (code M' (opT oa.length d t s))]
 rw [show stripL [eRows na oa,.sl 3 n1 ((nds M').map eNd) o1,.i .i64 (code M' (opT oa.length d t s))]=stripL [eRows na oa,eNds n1 (nds M'),.i .i64 (code M' (opT oa.length d t s))] from rfl,e72] at e72'
 apply i54 _ _ _ _ (by simp [noRefL]) (by simp [noRef,noRefL])
 simp [s54,e33a,e33b,e74]
 simp only [S0] at q
 rw [q]
 simp [p0,j1,e72',show ¬3=S'.length by omega,p3,-sset_cons]
 rw [if_neg (by rw [nds_len];omega),sget_sset _ (by simp;omega)]
 simp
 rfl
theorem v21 {na na' nb nb' nc nc':Bool} {oa ob oc:List Row} {xa xb xc:List Nd} {ra rb rc e:Int} (h:isoCall (call dp) 54 [eB na na' oa xa ra,eB nb nb' ob xb rb,.i .i64 0]=some (.tup [eB nc nc' oc xc rc,.i .i64 e])) :
  isoCall (call dp) 21 [eB na na' oa xa ra,eB nb nb' ob xb rb]=some (.tup [eB nc nc' oc xc rc,.i .i64 e]):=by
 apply i21 _ _ _ (by simp [noRefL]) (by simp [noRef,noRefL])
 simp only [eB] at h
 simp [s21,h]
 rfl
theorem v22 {na na' nb nb' nc nc':Bool} {oa ob oc:List Row} {xa xb xc:List Nd} {ra rb rc e:Int} (h:isoCall (call dp) 54 [eB na na' oa xa ra,eB nb nb' ob xb rb,.i .i64 1]=some (.tup [eB nc nc' oc xc rc,.i .i64 e])) :
  isoCall (call dp) 22 [eB na na' oa xa ra,eB nb nb' ob xb rb]=some (.tup [eB nc nc' oc xc rc,.i .i64 e]):=by
 apply i22 _ _ _ (by simp [noRefL]) (by simp [noRef,noRefL])
 simp only [eB] at h
 simp [s22,h]
 rfl
noncomputable def eT (na n:Bool) (o:List Row) (t:T):D:=eB na n o (nds (post t [])) (code (post t []) t)
def nlOk (na:Bool) (o:List Row):Prop:=na=true→o=[]
theorem VT_eT {o:List Row} {t:T} (ho:OrdOk o) (h7:o.length≤7) (w:Wf o.length t):VT o (nds (post t [])) (code (post t []) t) t:=
 ⟨⟨ho,by omega⟩,w,rfl,rfl,by have:=small h7 w;omega⟩
theorem andT (na na' nb nb':Bool) (o:List Row) (t s:T) (ho:OrdOk o) (h7:o.length≤7) (wt:Wf o.length t) (ws:Wf o.length s) (hn:nlOk na o) (hn':nlOk nb o) :
  ∃ n:Bool,(n=true→post (opT o.length false t s) []=[])∧isoCall (call dp) 21 [eT na na' o t,eT nb nb' o s]=some (.tup [eT na n o (opT o.length false t s),.i .i64 0]):=by
 obtain ⟨n,h1,h2⟩:=v54 false na na' nb nb' o _ _ _ _ t s (VT_eT ho h7 wt) (VT_eT ho h7 ws) h7 hn hn'
 exact ⟨n,h1,v21 h2⟩
theorem orT (na na' nb nb':Bool) (o:List Row) (t s:T) (ho:OrdOk o) (h7:o.length≤7) (wt:Wf o.length t) (ws:Wf o.length s) (hn:nlOk na o) (hn':nlOk nb o) :
  ∃ n:Bool,(n=true→post (opT o.length true t s) []=[])∧isoCall (call dp) 22 [eT na na' o t,eT nb nb' o s]=some (.tup [eT na n o (opT o.length true t s),.i .i64 0]):=by
 obtain ⟨n,h1,h2⟩:=v54 true na na' nb nb' o _ _ _ _ t s (VT_eT ho h7 wt) (VT_eT ho h7 ws) h7 hn hn'
 exact ⟨n,h1,v22 h2⟩
def swN (x:Nd):Nd:=(x.1,swp x.2.1,swp x.2.2)
open Classical in
theorem v23 (nl nl':Bool) (ord:List Row) (ns:List Nd) (root:Int) (hn:nl=true→ord=[]) (hb:Bd (ns.length+2)) (hb':Bd ord.length) (hv:VB ord ns root) :
  isoCall (call dp) 23 [eB nl nl' ord ns root]=some (eB nl (decide (ns.length=0)) ord (ns.map swN) (swp root)):=by
 have e33:=v33 nl nl' ord ns root hn hb hb'
 simp only [hv,decide_true,eB] at e33
 have ez:=v55 root hv.2.2.1.2.1
 apply i23 _ _ (by simp [noRefL]) (by simp)
 simp [s23,e33,v49 nl ord hn (by have:=hv.1.2;simp [maxLenD];omega),ez,bldV]
 have hpos:∀ x,x∈ns→0≤x.2.1∧0≤x.2.2:=by
  intro x hx
  obtain ⟨k,hk⟩:=List.mem_iff_getElem?.1 hx
  have:=(okNd_of hk hv.2.2.1.1).2.1
  exact ⟨this.1.1,this.2.1⟩
 have h40:=hv.2.1
 let J:Nat→List D→Store→Prop:=fun q fr S=>∃ k a23 o,k+q=ns.length∧sget S 1=some (.box [.sl 2 true [] .ro,.sl 3 true [] .ro,.i .i64 0]) ∧
  sget S 2=some (.box [eRows nl ord,.sl 3 (decide (k=0)) (((ns.take k).map swN).map eNd) o,.i .i64 (swp root)])∧Liv S (decide (k=0)) k o ∧
  fr=mkf 44 [(2,.bx 1 0),(3,.fn 55 []),(4,.bx 2 0),(20,eNds nl' ns),(21,.i .i64 ns.length),(22,.i .i64 k),(23,a23)]
 refine W_loop J ?_ ns.length _ _ ⟨0,_,.ro,by simp,rfl,rfl,.inl ⟨rfl,rfl,rfl⟩,rfl⟩
 rintro q fr S ⟨k,a23,o,hk,h1,h2,hl,rfl⟩
 rw [←wp_W,e23_0]
 simp [s23_0]
 by_cases hkl:k<ns.length
 ·obtain ⟨x,hx⟩:∃ x,ns[k]? = some x:=⟨_,List.getElem?_eq_getElem (by omega)⟩
  have hp:=hpos x (List.mem_of_getElem? hx)
  have l2:=sget_lt h2
  simp [hkl,iaD_nds _ hx,h2,show ¬2=S.length by omega,v55 _ hp.1,v55 _ hp.2,bldV]
  rw [show [D.i .i64 x.1,.i .i64 (swp x.2.1),.i .i64 (swp x.2.2)]=eNd (swN x) from rfl]
  have hlen:(((ns.take k).map swN).map eNd).length=k:=by simp;omega
  have h1':sget (Ent.box (eNd x)::S) 1=_:=sget_push h1
  have h2':sget (Ent.box (eNd x)::S) 2=_:=sget_push h2
  obtain ⟨t,S',q4,l4,p4,m4,z4⟩:=app_liv (k:=3) (n':=false) (xs:=((ns.take k).map swN).map eNd) (ys:=[eNd (swN x)]) (o':=.ro) (S:=Ent.box (eNd x)::S) (by rw [hlen];exact hl.push _) (by rw [hlen];simp [maxLenD];omega) (by simp)
  have g1:=p4 _ _ h1'
  have g2:=p4 _ _ h2'
  simp at q4
  simp [q4,g2,wrapS (show Bd k by unfold Bd;omega)]
  refine ⟨q-1,by omega,k+1,_,.tok t,by omega,(sget_sset_ne _ (by omega)).trans g1,?_,.inr ⟨by simp,t,rfl,(sget_sset_ne _ (by rintro rfl;rw [g2] at l4;cases l4)).trans l4⟩,rfl⟩
  rw [sget_sset _ (sget_lt g2),take_snoc hx]
  simp
 ·have hk':k=ns.length:=by omega
  subst hk'
  simp at h2
  simp [e23_r0,s23_r0,h1,h2]
  rw [sget_sset _ (sget_lt h1)]
  simp
  rw [←List.map_map]
  rfl
theorem notT_spec (nl nl':Bool) (o:List Row) (t:T) (ho:OrdOk o) (h7:o.length≤7) (w:Wf o.length t) (hn:nlOk nl o) :
  ∃ n:Bool,(n=true→post (notT t) []=[])∧isoCall (call dp) 23 [eT nl nl' o t]=some (eT nl n o (notT t)):=by
 have hs:=small h7 w
 have e:=v23 nl nl' o (nds (post t [])) (code (post t []) t) hn (by rw [nds_len];unfold Bd;omega) (by unfold Bd;omega) (VB_VT.2 ⟨t,VT_eT ho h7 w⟩)
 have hp:=post_not t []
 simp only [List.map_nil] at hp
 refine ⟨decide ((nds (post t [])).length=0),?_,e.trans ?_⟩
 ·simp only [decide_eq_true_eq,nds_len,hp]
  intro h
  rw [List.length_eq_zero_iff.1 h];rfl
 ·have h1:(nds (post t [])).map swN=nds (post (notT t) []):=by rw [hp];exact (nds_not (Cl_kids (post_nil t).1)).symm
  have h2:swp (code (post t []) t)=code (post (notT t) []) (notT t):=by rw [hp];exact (code_not _ t).symm
  rw [h1,h2];rfl
end Go.Proofs.YtjlmeikcfdanmaaGreatDoor.DE.V

namespace Go.Proofs.YtjlmeikcfdanmaaGreatDoor.DE
open Go
variable (cf:CallF) (a0 a1 a2 a3 a4 a5 a6 a8 a9 a10 a11 a13 a14 a15 a62:D) (S:Store) (Q:QT) (Post:PT)
def s15_r0 (cf:CallF) (a0 a3 a4 a5 a9:D) (S:Store) (Q:QT):Prop:=
 Q .ret (mkf 19 [(0,.top),(3,.top),(4,(.i .i64 (-1))),(5,.top),(9,.top)]) S
theorem e15_r0:wp cf c15_r0 (mkf 19 [(0,a0),(3,a3),(4,a4),(5,a5),(9,a9)]) S Q=s15_r0 cf a0 a3 a4 a5 a9 S Q:=wpS_of (by kernel_rfl)
def s15_0 (cf:CallF) (a0 a3 a4 a5 a9:D) (S:Store) (Q:QT):Prop:=
 OX (lenD false a0) fun x1=>OX (binD .lss .num a5 x1) fun x2=>WB x2
 (OX (iaD 2 a0 a5) fun x3=>OX (ldD S 2 true x3) fun x4=>OX (ldD S 2 true a3) fun x5=>OX (binD .eql (.agg [.i,.i]) x4 x5) fun x6=>WB x6
 (Q .ret (mkf 19 [(0,.top),(3,.top),(4,a5),(5,.top),(9,.top)]) S)
 (OX (binD .add .num a5 (.i .i64 1)) fun x7=>Q .normal (mkf 19 [(0,a0),(3,a3),(4,a4),(5,x7),(9,.top)]) S))
 (Q (.exit 0) (mkf 19 [(0,a0),(3,a3),(4,a4),(5,a5),(9,x2)]) S)
theorem e15_0:wp cf c15_0 (fkill (mkf 19 [(0,a0),(3,a3),(4,a4),(5,a5),(9,a9)]) []) S Q=s15_0 cf a0 a3 a4 a5 a9 S Q:=wpS_of (by kernel_rfl)
def s15 (cf:CallF) (a0 a1:D) (S:Store) (Post:PT):Prop:=
 bxx 2 true a1 S fun x8 S9=>W cf (.loop [] c15_0) (mkf 19 [(0,a0),(3,x8),(4,.top),(5,(.i .i64 0)),(9,.top)]) S9 (Qblk 0 (QS cf c15_r0 (FinK [.t 4] Post)))
theorem e15:wp cf c15 (frame0 d15 [a0,a1]) S (FinK d15.res Post)=s15 cf a0 a1 S Post:=wpS_of (by kernel_rfl)
theorem i15 (a0 a1:D) (r:D) (ha:noRefL (stripL [a0,a1])=true) (hr:noRef r=true) (h:s15 (call dp) (strip a0) (strip a1) [] fun d _=>stripT d=r):isoCall (call dp) 15 [a0,a1]=some r:=iso_s (f:=d15) rfl ⟨rfl,by decide⟩ ha hr (by rw [←e15] at h;exact h)
def s18 (cf:CallF) (a0 a1:D) (S:Store) (Post:PT):Prop:=
 al [.sl 2 true [] .ro,.sl 3 true [] .ro,.i .i64 0] S fun x1 S2=>OX (lenD false a0) fun x3=>OX (cellsV 3 true []) fun x4=>OX (cf 53 [a1,x3,(.i .i64 0),(.i .i64 0),(bslO 3 x4 S2).1] (bslO 3 x4 S2).2) fun p6=>OX (extD p6.1 0) fun x7=>OX (extD p6.1 1) fun x8=>OX (bldV [.sl 2 true [] .ro,.sl 3 true [] .ro,.i .i64 0] [(0,1,false,a0),(1,1,false,x8),(2,1,false,x7)]) fun x9=>OX (stD p6.2 3 true x1 (.agg x9)) fun S11=>OX (ldc S11 3 true x1) fun x12=>Post x12 S11
theorem e18:wp cf c18 (frame0 d18 [a0,a1]) S (FinK d18.res Post)=s18 cf a0 a1 S Post:=wpS_of (by kernel_rfl)
theorem i18 (a0 a1:D) (r:D) (ha:noRefL (stripL [a0,a1])=true) (hr:noRef r=true) (h:s18 (call dp) (strip a0) (strip a1) [] fun d _=>stripT d=r):isoCall (call dp) 18 [a0,a1]=some r:=iso_s (f:=d18) rfl ⟨rfl,by decide⟩ ha hr (by rw [←e18] at h;exact h)
def s53_r0 (cf:CallF) (a4 a10 a11 a14 a15 a62:D) (S:Store) (Q:QT):Prop:=
 OX (lenD false a4) fun x1=>OX (binD .add .num x1 (.i .i64 2)) fun x2=>OX (ldD S 3 true a14) fun x3=>OX (cellsV 3 true [x3]) fun x4=>OX (appD 3 false a4 (.sl 3 false x4 .ro) S) fun p6=>Q .ret (mkf 81 [(4,.top),(10,x2),(11,p6.1),(14,.top),(15,.top),(62,.top)]) p6.2
theorem e53_r0:wp cf c53_r0 (mkf 81 [(4,a4),(10,a10),(11,a11),(14,a14),(15,a15),(62,a62)]) S Q=s53_r0 cf a4 a10 a11 a14 a15 a62 S Q:=wpS_of (by kernel_rfl)
def s53_0 (cf:CallF) (a4 a10 a11 a14 a15 a62:D) (S:Store) (Q:QT):Prop:=
 OX (lenD false a4) fun x7=>OX (binD .lss .num a15 x7) fun x8=>WB x8
 (OX (iaD 3 a4 a15) fun x9=>OX (ldD S 3 true x9) fun x10=>OX (ldD S 3 true a14) fun x11=>OX (binD .eql (.agg [.i,.i,.i]) x10 x11) fun x12=>WB x12
 (OX (binD .add .num a15 (.i .i64 2)) fun x13=>Q .ret (mkf 81 [(4,.top),(10,x13),(11,a4),(14,.top),(15,.top),(62,.top)]) S)
 (OX (binD .add .num a15 (.i .i64 1)) fun x14=>Q .normal (mkf 81 [(4,a4),(10,a10),(11,a11),(14,a14),(15,x14),(62,.top)]) S))
 (Q (.exit 0) (mkf 81 [(4,a4),(10,a10),(11,a11),(14,a14),(15,a15),(62,x8)]) S)
theorem e53_0:wp cf c53_0 (fkill (mkf 81 [(4,a4),(10,a10),(11,a11),(14,a14),(15,a15),(62,a62)]) []) S Q=s53_0 cf a4 a10 a11 a14 a15 a62 S Q:=wpS_of (by kernel_rfl)
def s53 (cf:CallF) (a0 a1 a2 a3 a4:D) (S:Store) (Post:PT):Prop:=
 OX (isoCall cf 93 [a0,a1,a2,a3]) fun x15=>WB x15
 (OX (iaD 1 a0 a3) fun x16=>OX (ldD S 1 false x16) fun x17=>WB x17
 (Post (.tup [(.i .i64 1),a4]) S)
 (Post (.tup [(.i .i64 0),a4]) S))
 (OX (binD .add .num a2 (.i .i64 1)) fun x18=>OX (cf 53 [a0,a1,x18,a3,a4] S) fun p20=>OX (extD p20.1 0) fun x21=>OX (extD p20.1 1) fun x22=>OX (binD .add .num a2 (.i .i64 1)) fun x23=>OX (binD .shl .num (.i .i64 1) a2) fun x24=>OX (binD .add .num a3 x24) fun x25=>OX (cf 53 [a0,a1,x23,x25,x22] p20.2) fun p27=>OX (extD p27.1 0) fun x28=>OX (extD p27.1 1) fun x29=>OX (binD .eql .num x21 x28) fun x30=>WB x30
 (Post (.tup [x21,x29]) p27.2)
 (OX (bldV [.i .i64 0,.i .i64 0,.i .i64 0] [(0,1,false,a2),(1,1,false,x21),(2,1,false,x28)]) fun x31=>al [.i .i64 0,.i .i64 0,.i .i64 0] p27.2 fun x32 S33=>OX (stD S33 3 true x32 (.agg x31)) fun S35=>W cf (.loop [] c53_0) (mkf 81 [(4,x29),(10,.top),(11,.top),(14,x32),(15,(.i .i64 0)),(62,.top)]) S35 (Qblk 0 (QS cf c53_r0 (FinK [.t 10,.t 11] Post)))))
theorem e53:wp cf c53 (frame0 d53 [a0,a1,a2,a3,a4]) S (FinK d53.res Post)=s53 cf a0 a1 a2 a3 a4 S Post:=wpS_of (by kernel_rfl)
theorem f53 (a0 a1 a2 a3 a4:D) (S:Store) (Post:PT) (h:s53 (call dp) a0 a1 a2 a3 a4 S Post):∃ r S',call dp 53 [a0,a1,a2,a3,a4] S=some (r,S')∧Post r S':=call_s (f:=d53) rfl ⟨rfl,by decide⟩ (by rw [←e53] at h;exact h)
def s93_r0 (cf:CallF) (a0 a1 a2 a3 a8 a9 a13:D) (S:Store) (Q:QT):Prop:=
 Q .ret (mkf 33 [(0,.top),(1,.top),(2,.top),(3,.top),(8,(.b true)),(9,.top),(13,.top)]) S
theorem e93_r0:wp cf c93_r0 (mkf 33 [(0,a0),(1,a1),(2,a2),(3,a3),(8,a8),(9,a9),(13,a13)]) S Q=s93_r0 cf a0 a1 a2 a3 a8 a9 a13 S Q:=wpS_of (by kernel_rfl)
def s93_0 (cf:CallF) (a0 a1 a2 a3 a8 a9 a13:D) (S:Store) (Q:QT):Prop:=
 OX (binD .shl .num (.i .i64 1) a1) fun x1=>OX (binD .lss .num a9 x1) fun x2=>WB x2
 (OX (binD .shl .num (.i .i64 1) a2) fun x3=>OX (binD .rem .num a9 x3) fun x4=>OX (binD .eql .num x4 a3) fun x5=>OX (gsel x5 true (some a0)) fun x6=>OX (gsel x5 true (some a9)) fun x7=>OX (gsel x5 true (iaD 1 x6 x7)) fun x8=>OX (gsel x5 true (ldD S 1 false x8)) fun x9=>OX (gsel x5 true (some a0)) fun x10=>OX (gsel x5 true (some a3)) fun x11=>OX (gsel x5 true (iaD 1 x10 x11)) fun x12=>OX (gsel x5 true (ldD S 1 false x12)) fun x13=>OX (gsel x5 true (binD .neq .bool x9 x13)) fun x14=>OX (pickD x5 x14 (.b false)) fun x15=>WB x15
 (Q .ret (mkf 33 [(0,.top),(1,.top),(2,.top),(3,.top),(8,(.b false)),(9,.top),(13,.top)]) S)
 (OX (binD .add .num a9 (.i .i64 1)) fun x16=>Q .normal (mkf 33 [(0,a0),(1,a1),(2,a2),(3,a3),(8,a8),(9,x16),(13,.top)]) S))
 (Q (.exit 0) (mkf 33 [(0,a0),(1,a1),(2,a2),(3,a3),(8,a8),(9,a9),(13,x2)]) S)
theorem e93_0:wp cf c93_0 (fkill (mkf 33 [(0,a0),(1,a1),(2,a2),(3,a3),(8,a8),(9,a9),(13,a13)]) []) S Q=s93_0 cf a0 a1 a2 a3 a8 a9 a13 S Q:=wpS_of (by kernel_rfl)
def s93 (cf:CallF) (a0 a1 a2 a3:D) (S:Store) (Post:PT):Prop:=
 W cf (.loop [] c93_0) (mkf 33 [(0,a0),(1,a1),(2,a2),(3,a3),(8,.top),(9,(.i .i64 0)),(13,.top)]) S (Qblk 0 (QS cf c93_r0 (FinK [.t 8] Post)))
theorem e93:wp cf c93 (frame0 d93 [a0,a1,a2,a3]) S (FinK d93.res Post)=s93 cf a0 a1 a2 a3 S Post:=wpS_of (by kernel_rfl)
theorem i93 (a0 a1 a2 a3:D) (r:D) (ha:noRefL (stripL [a0,a1,a2,a3])=true) (hr:noRef r=true) (h:s93 (call dp) (strip a0) (strip a1) (strip a2) (strip a3) [] fun d _=>stripT d=r):isoCall (call dp) 93 [a0,a1,a2,a3]=some r:=iso_s (f:=d93) rfl ⟨rfl,by decide⟩ ha hr (by rw [←e93] at h;exact h)
def s26_r0 (cf:CallF) (a0 a2 a3 a4 a9:D) (S:Store) (Q:QT):Prop:=
 Q .ret (mkf 21 [(0,.top),(2,a3),(3,.top),(4,.top),(9,.top)]) S
theorem e26_r0:wp cf c26_r0 (mkf 21 [(0,a0),(2,a2),(3,a3),(4,a4),(9,a9)]) S Q=s26_r0 cf a0 a2 a3 a4 a9 S Q:=wpS_of (by kernel_rfl)
def s26_0 (cf:CallF) (a0 a2 a3 a4 a9:D) (S:Store) (Q:QT):Prop:=
 OX (lenD false a0) fun x1=>OX (binD .lss .num a4 x1) fun x2=>WB x2
 (OX (iaD 1 a0 a4) fun x3=>OX (ldD S 1 false x3) fun x4=>OX (unD .not x4) fun x5=>OX (cellsV 1 false [x5]) fun x6=>OX (appD 1 false a3 (.sl 1 false x6 .ro) S) fun p8=>OX (binD .add .num a4 (.i .i64 1)) fun x9=>Q .normal (mkf 21 [(0,a0),(2,a2),(3,p8.1),(4,x9),(9,.top)]) p8.2)
 (Q (.exit 0) (mkf 21 [(0,a0),(2,a2),(3,a3),(4,a4),(9,x2)]) S)
theorem e26_0:wp cf c26_0 (fkill (mkf 21 [(0,a0),(2,a2),(3,a3),(4,a4),(9,a9)]) []) S Q=s26_0 cf a0 a2 a3 a4 a9 S Q:=wpS_of (by kernel_rfl)
def s26 (cf:CallF) (a0:D) (S:Store) (Post:PT):Prop:=
 OX (cellsV 1 false []) fun x10=>W cf (.loop [] c26_0) (mkf 21 [(0,a0),(2,.top),(3,(bslO 1 x10 S).1),(4,(.i .i64 0)),(9,.top)]) (bslO 1 x10 S).2 (Qblk 0 (QS cf c26_r0 (FinK [.t 2] Post)))
theorem e26:wp cf c26 (frame0 d26 [a0]) S (FinK d26.res Post)=s26 cf a0 S Post:=wpS_of (by kernel_rfl)
theorem i26 (a0:D) (r:D) (ha:noRefL (stripL [a0])=true) (hr:noRef r=true) (h:s26 (call dp) (strip a0) [] fun d _=>stripT d=r):isoCall (call dp) 26 [a0]=some r:=iso_s (f:=d26) rfl ⟨rfl,by decide⟩ ha hr (by rw [←e26] at h;exact h)
def s28_r0 (cf:CallF) (a0 a1 a4 a5 a6 a11:D) (S:Store) (Q:QT):Prop:=
 Q .ret (mkf 28 [(0,.top),(1,.top),(4,a5),(5,.top),(6,.top),(11,.top)]) S
theorem e28_r0:wp cf c28_r0 (mkf 28 [(0,a0),(1,a1),(4,a4),(5,a5),(6,a6),(11,a11)]) S Q=s28_r0 cf a0 a1 a4 a5 a6 a11 S Q:=wpS_of (by kernel_rfl)
def s28_0 (cf:CallF) (a0 a1 a4 a5 a6 a11:D) (S:Store) (Q:QT):Prop:=
 OX (lenD false a0) fun x1=>OX (binD .lss .num a6 x1) fun x2=>WB x2
 (OX (iaD 1 a0 a6) fun x3=>OX (ldD S 1 false x3) fun x4=>OX (gsel x4 true (some a1)) fun x5=>OX (gsel x4 true (some a6)) fun x6=>OX (gsel x4 true (iaD 1 x5 x6)) fun x7=>OX (gsel x4 true (ldD S 1 false x7)) fun x8=>OX (pickD x4 x8 (.b false)) fun x9=>OX (cellsV 1 false [x9]) fun x10=>OX (appD 1 false a5 (.sl 1 false x10 .ro) S) fun p12=>OX (binD .add .num a6 (.i .i64 1)) fun x13=>Q .normal (mkf 28 [(0,a0),(1,a1),(4,a4),(5,p12.1),(6,x13),(11,.top)]) p12.2)
 (Q (.exit 0) (mkf 28 [(0,a0),(1,a1),(4,a4),(5,a5),(6,a6),(11,x2)]) S)
theorem e28_0:wp cf c28_0 (fkill (mkf 28 [(0,a0),(1,a1),(4,a4),(5,a5),(6,a6),(11,a11)]) []) S Q=s28_0 cf a0 a1 a4 a5 a6 a11 S Q:=wpS_of (by kernel_rfl)
def s28 (cf:CallF) (a0 a1:D) (S:Store) (Post:PT):Prop:=
 OX (cellsV 1 false []) fun x14=>W cf (.loop [] c28_0) (mkf 28 [(0,a0),(1,a1),(4,.top),(5,(bslO 1 x14 S).1),(6,(.i .i64 0)),(11,.top)]) (bslO 1 x14 S).2 (Qblk 0 (QS cf c28_r0 (FinK [.t 4] Post)))
theorem e28:wp cf c28 (frame0 d28 [a0,a1]) S (FinK d28.res Post)=s28 cf a0 a1 S Post:=wpS_of (by kernel_rfl)
theorem i28 (a0 a1:D) (r:D) (ha:noRefL (stripL [a0,a1])=true) (hr:noRef r=true) (h:s28 (call dp) (strip a0) (strip a1) [] fun d _=>stripT d=r):isoCall (call dp) 28 [a0,a1]=some r:=iso_s (f:=d28) rfl ⟨rfl,by decide⟩ ha hr (by rw [←e28] at h;exact h)
def s29_r0 (cf:CallF) (a0 a1 a4 a5 a6 a11:D) (S:Store) (Q:QT):Prop:=
 Q .ret (mkf 28 [(0,.top),(1,.top),(4,a5),(5,.top),(6,.top),(11,.top)]) S
theorem e29_r0:wp cf c29_r0 (mkf 28 [(0,a0),(1,a1),(4,a4),(5,a5),(6,a6),(11,a11)]) S Q=s29_r0 cf a0 a1 a4 a5 a6 a11 S Q:=wpS_of (by kernel_rfl)
def s29_0 (cf:CallF) (a0 a1 a4 a5 a6 a11:D) (S:Store) (Q:QT):Prop:=
 OX (lenD false a0) fun x1=>OX (binD .lss .num a6 x1) fun x2=>WB x2
 (OX (iaD 1 a0 a6) fun x3=>OX (ldD S 1 false x3) fun x4=>OX (gsel x4 false (some a1)) fun x5=>OX (gsel x4 false (some a6)) fun x6=>OX (gsel x4 false (iaD 1 x5 x6)) fun x7=>OX (gsel x4 false (ldD S 1 false x7)) fun x8=>OX (pickD x4 (.b true) x8) fun x9=>OX (cellsV 1 false [x9]) fun x10=>OX (appD 1 false a5 (.sl 1 false x10 .ro) S) fun p12=>OX (binD .add .num a6 (.i .i64 1)) fun x13=>Q .normal (mkf 28 [(0,a0),(1,a1),(4,a4),(5,p12.1),(6,x13),(11,.top)]) p12.2)
 (Q (.exit 0) (mkf 28 [(0,a0),(1,a1),(4,a4),(5,a5),(6,a6),(11,x2)]) S)
theorem e29_0:wp cf c29_0 (fkill (mkf 28 [(0,a0),(1,a1),(4,a4),(5,a5),(6,a6),(11,a11)]) []) S Q=s29_0 cf a0 a1 a4 a5 a6 a11 S Q:=wpS_of (by kernel_rfl)
def s29 (cf:CallF) (a0 a1:D) (S:Store) (Post:PT):Prop:=
 OX (cellsV 1 false []) fun x14=>W cf (.loop [] c29_0) (mkf 28 [(0,a0),(1,a1),(4,.top),(5,(bslO 1 x14 S).1),(6,(.i .i64 0)),(11,.top)]) (bslO 1 x14 S).2 (Qblk 0 (QS cf c29_r0 (FinK [.t 4] Post)))
theorem e29:wp cf c29 (frame0 d29 [a0,a1]) S (FinK d29.res Post)=s29 cf a0 a1 S Post:=wpS_of (by kernel_rfl)
theorem i29 (a0 a1:D) (r:D) (ha:noRefL (stripL [a0,a1])=true) (hr:noRef r=true) (h:s29 (call dp) (strip a0) (strip a1) [] fun d _=>stripT d=r):isoCall (call dp) 29 [a0,a1]=some r:=iso_s (f:=d29) rfl ⟨rfl,by decide⟩ ha hr (by rw [←e29] at h;exact h)
def s19_r0 (cf:CallF) (a0 a1 a4 a5 a6 a11:D) (S:Store) (Q:QT):Prop:=
 Q .ret (mkf 19 [(0,.top),(1,.top),(4,a5),(5,.top),(6,.top),(11,.top)]) S
theorem e19_r0:wp cf c19_r0 (mkf 19 [(0,a0),(1,a1),(4,a4),(5,a5),(6,a6),(11,a11)]) S Q=s19_r0 cf a0 a1 a4 a5 a6 a11 S Q:=wpS_of (by kernel_rfl)
def s19_0 (cf:CallF) (a0 a1 a4 a5 a6 a11:D) (S:Store) (Q:QT):Prop:=
 OX (binD .shl .num (.i .i64 1) a0) fun x1=>OX (binD .lss .num a6 x1) fun x2=>WB x2
 (OX (cellsV 1 false [a1]) fun x3=>OX (appD 1 false a5 (.sl 1 false x3 .ro) S) fun p5=>OX (binD .add .num a6 (.i .i64 1)) fun x6=>Q .normal (mkf 19 [(0,a0),(1,a1),(4,a4),(5,p5.1),(6,x6),(11,.top)]) p5.2)
 (Q (.exit 0) (mkf 19 [(0,a0),(1,a1),(4,a4),(5,a5),(6,a6),(11,x2)]) S)
theorem e19_0:wp cf c19_0 (fkill (mkf 19 [(0,a0),(1,a1),(4,a4),(5,a5),(6,a6),(11,a11)]) []) S Q=s19_0 cf a0 a1 a4 a5 a6 a11 S Q:=wpS_of (by kernel_rfl)
def s19 (cf:CallF) (a0 a1:D) (S:Store) (Post:PT):Prop:=
 OX (cellsV 1 false []) fun x7=>W cf (.loop [] c19_0) (mkf 19 [(0,a0),(1,a1),(4,.top),(5,(bslO 1 x7 S).1),(6,(.i .i64 0)),(11,.top)]) (bslO 1 x7 S).2 (Qblk 0 (QS cf c19_r0 (FinK [.t 4] Post)))
theorem e19:wp cf c19 (frame0 d19 [a0,a1]) S (FinK d19.res Post)=s19 cf a0 a1 S Post:=wpS_of (by kernel_rfl)
theorem i19 (a0 a1:D) (r:D) (ha:noRefL (stripL [a0,a1])=true) (hr:noRef r=true) (h:s19 (call dp) (strip a0) (strip a1) [] fun d _=>stripT d=r):isoCall (call dp) 19 [a0,a1]=some r:=iso_s (f:=d19) rfl ⟨rfl,by decide⟩ ha hr (by rw [←e19] at h;exact h)
def s20_r0 (cf:CallF) (a0 a1 a4 a5 a6 a11:D) (S:Store) (Q:QT):Prop:=
 Q .ret (mkf 23 [(0,.top),(1,.top),(4,a5),(5,.top),(6,.top),(11,.top)]) S
theorem e20_r0:wp cf c20_r0 (mkf 23 [(0,a0),(1,a1),(4,a4),(5,a5),(6,a6),(11,a11)]) S Q=s20_r0 cf a0 a1 a4 a5 a6 a11 S Q:=wpS_of (by kernel_rfl)
def s20_0 (cf:CallF) (a0 a1 a4 a5 a6 a11:D) (S:Store) (Q:QT):Prop:=
 OX (binD .shl .num (.i .i64 1) a0) fun x1=>OX (binD .lss .num a6 x1) fun x2=>WB x2
 (OX (binD .shr .num a6 a1) fun x3=>OX (binD .rem .num x3 (.i .i64 2)) fun x4=>OX (binD .eql .num x4 (.i .i64 1)) fun x5=>OX (cellsV 1 false [x5]) fun x6=>OX (appD 1 false a5 (.sl 1 false x6 .ro) S) fun p8=>OX (binD .add .num a6 (.i .i64 1)) fun x9=>Q .normal (mkf 23 [(0,a0),(1,a1),(4,a4),(5,p8.1),(6,x9),(11,.top)]) p8.2)
 (Q (.exit 0) (mkf 23 [(0,a0),(1,a1),(4,a4),(5,a5),(6,a6),(11,x2)]) S)
theorem e20_0:wp cf c20_0 (fkill (mkf 23 [(0,a0),(1,a1),(4,a4),(5,a5),(6,a6),(11,a11)]) []) S Q=s20_0 cf a0 a1 a4 a5 a6 a11 S Q:=wpS_of (by kernel_rfl)
def s20 (cf:CallF) (a0 a1:D) (S:Store) (Post:PT):Prop:=
 OX (cellsV 1 false []) fun x10=>W cf (.loop [] c20_0) (mkf 23 [(0,a0),(1,a1),(4,.top),(5,(bslO 1 x10 S).1),(6,(.i .i64 0)),(11,.top)]) (bslO 1 x10 S).2 (Qblk 0 (QS cf c20_r0 (FinK [.t 4] Post)))
theorem e20:wp cf c20 (frame0 d20 [a0,a1]) S (FinK d20.res Post)=s20 cf a0 a1 S Post:=wpS_of (by kernel_rfl)
theorem i20 (a0 a1:D) (r:D) (ha:noRefL (stripL [a0,a1])=true) (hr:noRef r=true) (h:s20 (call dp) (strip a0) (strip a1) [] fun d _=>stripT d=r):isoCall (call dp) 20 [a0,a1]=some r:=iso_s (f:=d20) rfl ⟨rfl,by decide⟩ ha hr (by rw [←e20] at h;exact h)
end Go.Proofs.YtjlmeikcfdanmaaGreatDoor.DE

namespace Go.Proofs.YtjlmeikcfdanmaaGreatDoor.BT
def bitsA (b:Nat):Nat→Bool:=fun i=>b.testBit i
def mix (v b:Nat) (s:Nat→Bool):Nat→Bool:=fun i=>if i<v then b.testBit i else s i
theorem mix_zero (b:Nat) (s:Nat→Bool):mix 0 b s=s:=by funext i;simp [mix]
theorem mix_lo {v b:Nat} (hb:b<2 ^ v) (s:Nat→Bool):mix v b (upd s v false)=mix (v+1) b s:=by
 funext i
 simp only [mix,upd]
 by_cases h:i<v
 ·simp [h,show i<v+1 by omega]
 ·by_cases e:i=v
  ·subst e;simp [Nat.testBit_lt_two_pow hb]
  ·simp [h,e,show ¬i<v+1 by omega]
theorem mix_hi {v b:Nat} (hb:b<2 ^ v) (s:Nat→Bool):mix v b (upd s v true)=mix (v+1) (b+2 ^ v) s:=by
 funext i
 simp only [mix,upd]
 rw [Nat.add_comm b]
 by_cases h:i<v
 ·simp [h,show i<v+1 by omega,Nat.testBit_two_pow_add_gt h]
 ·by_cases e:i=v
  ·subst e;simp [Nat.testBit_two_pow_add_eq,Nat.testBit_lt_two_pow hb]
  ·simp [h,e,show ¬i<v+1 by omega]
noncomputable def subT (n v b:Nat) (f:(Nat→Bool)→Bool):T:=tr n (n-v) fun s=>f (mix v b s)
theorem subT_wf {n v:Nat} (b:Nat) (f:(Nat→Bool)→Bool) (h:v≤n):Wf n (subT n v b f)∧v≤top n (subT n v b f):=by
 have:=tr_wf n (n-v) (fun s=>f (mix v b s)) (by omega)
 exact ⟨this.1,by have:=this.2;unfold subT;omega⟩
theorem subT_fn {n v:Nat} {b:Nat} {f:(Nat→Bool)→Bool} (hd:Dep n 0 f) (h:v≤n) (s:Nat→Bool):fn (subT n v b f) s=f (mix v b s):=by
 unfold subT
 rw [tr_fn n (n-v) _ (by omega)]
 intro x y e
 refine hd _ _ fun i _ hi=>?_
 simp only [mix]
 split
 ·rfl
 ·exact e i (by omega) hi
theorem subT_step {n v b:Nat} {f:(Nat→Bool)→Bool} (hv:v<n) (hb:b<2 ^ v):subT n v b f=mk v (subT n (v+1) b f) (subT n (v+1) (b+2 ^ v) f):=by
 unfold subT
 obtain ⟨k,hk⟩:∃ k,n-v=k+1:=⟨n-v-1,by omega⟩
 have h1:n-(v+1)=k:=by omega
 have h2:n-(k+1)=v:=by omega
 rw [hk,h1]
 simp only [tr,h2,mix_lo hb,mix_hi hb]
theorem subT_const {n v b:Nat} {f:(Nat→Bool)→Bool} {c:Bool} (hd:Dep n 0 f) (hv:v≤n) (h:∀ s,f (mix v b s)=c):subT n v b f = .leaf c:=
 canon' (subT_wf b f hv).1 (n:=n) trivial fun a=>by rw [subT_fn hd hv,h];rfl
theorem subT_zero {n:Nat} {f:(Nat→Bool)→Bool}:subT n 0 0 f=treeOf n f:=by
 unfold subT treeOf
 simp only [mix_zero,Nat.sub_zero]
theorem enc (s:Nat→Bool):∀ n,∃ x,x<2 ^ n∧∀ i,i<n→x.testBit i=s i
 | 0=>⟨0,by simp,fun i h=>by omega⟩
 | n+1=>by
  obtain ⟨x,hx,h⟩:=enc s n
  by_cases c:s n=true
  ·refine ⟨2 ^ n+x,by rw [Nat.pow_succ];omega,fun i hi=>?_⟩
   by_cases e:i=n
   ·subst e;rw [Nat.testBit_two_pow_add_eq,Nat.testBit_lt_two_pow hx,c];rfl
   ·rw [Nat.testBit_two_pow_add_gt (by omega)];exact h i (by omega)
  ·have c:s n=false:=by simpa using c
   refine ⟨x,by rw [Nat.pow_succ];omega,fun i hi=>?_⟩
   by_cases e:i=n
   ·subst e;rw [Nat.testBit_lt_two_pow hx,c]
   ·exact h i (by omega)
theorem const_iff {n v b:Nat} {f:(Nat→Bool)→Bool} (hd:Dep n 0 f) (hv:v≤n) (hb:b<2 ^ v) :
  (∀ x,x<2 ^ n→x % 2 ^ v=b→f (bitsA x)=f (bitsA b))↔∀ s,f (mix v b s)=f (bitsA b):=by
 constructor
 ·intro h s
  obtain ⟨x,hx,hs⟩:=enc (mix v b s) n
  have hm:x % 2 ^ v=b:=by
   apply Nat.eq_of_testBit_eq
   intro i
   rw [Nat.testBit_mod_two_pow]
   by_cases hi:i<v
   ·rw [hs i (by omega)];simp [mix,hi]
   ·have:b<2 ^ i:=Nat.lt_of_lt_of_le hb (Nat.pow_le_pow_right (by omega) (by omega))
    simp [hi,Nat.testBit_lt_two_pow this]
  rw [←h x hx hm]
  exact hd _ _ fun i _ hi=>(hs i hi).symm
 ·intro h x hx hm
  rw [←h (bitsA x)]
  refine hd _ _ fun i _ hi=>?_
  simp only [mix,bitsA]
  split
  ·rename_i hi'
   rw [←hm,Nat.testBit_mod_two_pow];simp [hi']
  ·rfl
def tabOf (n:Nat) (f:(Nat→Bool)→Bool):List Bool:=(List.range (2 ^ n)).map fun x=>f (bitsA x)
theorem tabOf_len (n:Nat) (f:(Nat→Bool)→Bool):(tabOf n f).length=2 ^ n:=by simp [tabOf]
theorem tabOf_get {n x:Nat} (f:(Nat→Bool)→Bool) (h:x<2 ^ n):(tabOf n f)[x]? = some (f (bitsA x)):=by simp [tabOf,h]
theorem post_sub {M:List T}:∀ {t:T},sub M t→post t M=M
 | .leaf _,_=>rfl
 | .node _ _ _,h=>by rw [post];exact if_pos h
theorem post_facts {M:List T} (hM:Cl M) (t:T):∃ N,post t M=M++N∧Cl (post t M)∧sub (post t M) t∧∀ s,s∈N→s.size≤t.size:=by
 obtain ⟨N,e,c,s,p,_⟩:=post_spec t M hM
 exact ⟨N,e,e ▸ c,e ▸ s,fun s hs=>p _ (size_her t.size) (Nat.le_refl _) s hs⟩
theorem post_mk_eq {M:List T} (hM:Cl M) (v:Nat) (l:T):post (mk v l l) M=post l (post l M):=by
 obtain ⟨_,_,_,s,_⟩:=post_facts hM l
 rw [post_sub s]
 simp [mk]
theorem post_mk_ne {M:List T} (hM:Cl M) {v:Nat} {l h:T} (hne:l≠h) :
  post (.node v l h) M=if .node v l h∈post h (post l M) then post h (post l M) else post h (post l M)++[.node v l h]:=by
 obtain ⟨N1,e1,c1,s1,z1⟩:=post_facts hM l
 obtain ⟨N2,e2,c2,s2,z2⟩:=post_facts c1 h
 rw [post]
 by_cases hm : .node v l h∈M
 ·have k:=Cl_kids hM _ hm
  have p1:post l M=M:=post_sub k.1
  have p2:post h (post l M)=M:=by rw [p1];exact post_sub k.2
  rw [if_pos hm,p2,if_pos hm]
 ·rw [if_neg hm,if_neg]
  intro k
  rw [e2,e1] at k
  rcases List.mem_append.1 k with k | k
  ·rcases List.mem_append.1 k with k | k
   ·exact hm k
   ·have:=z1 _ k;simp only [T.size] at this;omega
  ·have:=z2 _ k;simp only [T.size] at this;omega
end Go.Proofs.YtjlmeikcfdanmaaGreatDoor.BT

namespace Go.Proofs.YtjlmeikcfdanmaaGreatDoor.DE.V
open Go BT
theorem pow60 {n:Nat} (h:n≤60):2 ^ n≤1152921504606846976:=by
 have:=Nat.pow_le_pow_right (show 0<2 by omega) h
 simpa using this
theorem shl1 {n:Nat} (h:n≤60):binD .shl .num (.i .i64 1) (.i .i64 n)=some (.i .i64 ((2 ^ n:Nat):Int)):=by
 have h2:=pow60 h
 have hm:min n 64=n:=by omega
 simp only [binD,shOp]
 rw [if_neg (by omega)]
 simp only [IntKind.bits,Int.toNat_natCast,hm,Int.one_mul]
 have e:(2:Int) ^ n=((2 ^ n:Nat):Int):=by simp
 rw [e]
 generalize 2 ^ n=m at *
 rw [wrap64 ⟨by omega,by omega⟩]
theorem shrN {a v:Nat} (h:v≤60):binD .shr .num (.i .i64 a) (.i .i64 v)=some (.i .i64 ((a / 2 ^ v:Nat):Int)):=by
 have hm:min v 64=v:=by omega
 simp only [binD,shOp]
 rw [if_neg (by omega)]
 simp only [IntKind.bits,Int.toNat_natCast,hm]
 have e:(2:Int) ^ v=((2 ^ v:Nat):Int):=by simp
 rw [e,←Int.ofNat_fdiv]
theorem remN {a b:Nat} (h:0<b):binD .rem .num (.i .i64 a) (.i .i64 b)=some (.i .i64 ((a % b:Nat):Int)):=by
 simp only [binD,intOp,if_true]
 rw [if_neg (by omega),Int.ofNat_tmod]
def eBools (nl:Bool) (l:List Bool):D:=.sl 1 nl (l.map fun b=>[.b b]) .ro
@[simp] theorem noRef_bools (nl:Bool) (l:List Bool):noRef (eBools nl l)=true:=by
 simp only [eBools,noRef,Bool.true_and]
 exact noRefLL_map (fun b:Bool=>[D.b b]) (fun _=>rfl) l
@[simp] theorem strip_bools (nl:Bool) (l:List Bool):strip (eBools nl l)=eBools nl l:=(rfl)
@[simp] theorem stripT_bools (nl:Bool) (l:List Bool):stripT (eBools nl l)=eBools nl l:=(rfl)
@[simp] theorem len_bools (nl:Bool) (l:List Bool):lenD false (eBools nl l)=some (.i .i64 l.length):=by simp [eBools,lenD]
theorem ia_bools {nl:Bool} {l:List Bool} {k:Nat} {b:Bool} (h:l[k]? = some b):iaD 1 (eBools nl l) (.i .i64 k)=some (.el [.b b] 0):=by simp [eBools,iaD,h]
def LivC (S:Store) (nl:Bool) (n:Nat) (o:Own):Prop:=Liv S nl n o∨(nl=false∧n=0∧o = .cap0)
theorem app_livC {k:Nat} {nl n':Bool} {xs ys:List (List D)} {o o':Own} {S:Store} (h:LivC S nl xs.length o) (hl:xs.length+ys.length≤maxLenD) (hy:ys≠[]) :
  ∃ t S',appD k false (.sl k nl xs o) (.sl k n' ys o') S=some (.sl k false (xs++ys) (.tok t),S')∧sget S' t=some (.tok true)∧Pres S S':=by
 rcases h with h | ⟨rfl,h2,rfl⟩
 ·obtain ⟨t,S',e,a,b,_⟩:=app_liv h hl hy
  exact ⟨t,S',e,a,b⟩
 ·have:xs=[]:=List.length_eq_zero_iff.1 h2
  subst this
  refine ⟨S.length,.tok true::S,?_,by simp,Pres.push _ _⟩
  rw [app_cap0 S (by simpa using hl),if_neg hy]
  rfl
theorem LivC.tok {S:Store} {t n:Nat} (h:sget S t=some (.tok true)):LivC S false n (.tok t):=.inl (.inr ⟨rfl,t,rfl,h⟩)
theorem LivC.false {S:Store} {nl:Bool} {n:Nat} {o:Own} (h:LivC S nl n o) (hn:0<n):nl=false:=by
 rcases h with (⟨_,h,_⟩ | ⟨h,_⟩) | ⟨h,_⟩
 ·omega
 ·exact h
 ·exact h
theorem LivC.push {S:Store} {nl:Bool} {n:Nat} {o:Own} (e:Ent) (h:LivC S nl n o):LivC (e::S) nl n o:=by
 rcases h with h | h
 ·exact .inl (h.push e)
 ·exact .inr h
theorem v15 (nl:Bool) (l:List Row) (r:Row) (hb:Bd l.length):isoCall (call dp) 15 [eRows nl l,.agg (eRow r)]=some (.i .i64 (ixOf r l)):=by
 apply i15 _ _ _ (by simp [noRefL]) rfl
 simp [s15]
 let J:Nat→List D→Store→Prop:=fun q fr S=>∃ k a4 a9,k+q=l.length∧r ∉ l.take k∧S=[Ent.box (eRow r)]∧fr=mkf 19 [(0,eRows nl l),(3,.bx 0 0),(4,a4),(5,.i .i64 k),(9,a9)]
 refine W_loop J ?_ l.length _ _ ⟨0,_,_,by simp,by simp,rfl,rfl⟩
 rintro q fr S ⟨k,a4,a9,hk,hn,rfl,rfl⟩
 rw [←wp_W,e15_0]
 by_cases h:k<l.length
 ·obtain ⟨x,hx⟩:∃ x,l[k]? = some x:=⟨_,List.getElem?_eq_getElem (by omega)⟩
  simp [s15_0,h,iaD_rows _ hx]
  by_cases e:x=r
  ·subst e
   simp [ixOf_found hx hn]
  ·simp [e,wrapS (hb.lt (Nat.le_of_lt h))]
   refine ⟨q-1,by omega,k+1,_,_,by omega,?_,rfl,rfl⟩
   rw [take_snoc hx]
   simp [hn]
   exact fun h=>e h.symm
 ·have:l.take k=l:=List.take_of_length_le (by omega)
  rw [this] at hn
  simp [s15_0,h,e15_r0,s15_r0,ixOf_none hn]
theorem range_snoc_map {β:Type} (F:Nat→β) (k:Nat):(List.range (k+1)).map F=(List.range k).map F++[F k]:=by
 rw [List.range_succ,List.map_append];rfl
theorem app_bools {S:Store} {nl n':Bool} {o o':Own} (F:Nat→Bool) (k:Nat) (h:LivC S nl k o) (hk:k≤1000000) :
  ∃ t S',appD 1 false (.sl 1 nl (((List.range k).map F).map fun b=>[D.b b]) o) (.sl 1 n' [[.b (F k)]] o') S=some (.sl 1 false (((List.range (k+1)).map F).map fun b=>[D.b b]) (.tok t),S')∧sget S' t=some (.tok true)∧Pres S S':=by
 have hl:(((List.range k).map F).map fun b=>[D.b b]).length=k:=by simp
 obtain ⟨t,S',e,a,b⟩:=app_livC (k:=1) (n':=n') (xs:=((List.range k).map F).map fun b=>[D.b b]) (ys:=[[.b (F k)]]) (o':=o') (by rw [hl];exact h) (by rw [hl];simp [maxLenD];omega) (by simp)
 refine ⟨t,S',?_,a,b⟩
 rw [e,range_snoc_map]
 simp
end Go.Proofs.YtjlmeikcfdanmaaGreatDoor.DE.V

namespace Go.Proofs.YtjlmeikcfdanmaaGreatDoor.DE.V
open Go BT
theorem pow7 {n:Nat} (h:n≤7):2 ^ n≤128:=by
 have:=Nat.pow_le_pow_right (show 0<2 by omega) h
 simpa using this
theorem v26 (nl:Bool) (n:Nat) (h7:n≤7) (f:(Nat→Bool)→Bool):isoCall (call dp) 26 [eBools nl (tabOf n f)]=some (eBools false (tabOf n fun s=>!f s)):=by
 have hp:=pow7 h7
 apply i26 _ _ (by simp [noRefL]) (by simp)
 simp [s26]
 let F:Nat→Bool:=fun x=>!f (bitsA x)
 let J:Nat→List D→Store→Prop:=fun q fr S=>∃ k a2 a9 m o,k+q=2 ^ n∧LivC S m k o ∧
  fr=mkf 21 [(0,eBools nl (tabOf n f)),(2,a2),(3,.sl 1 m (((List.range k).map F).map fun b=>[.b b]) o),(4,.i .i64 k),(9,a9)]
 refine W_loop J ?_ (2 ^ n) _ _ ⟨0,_,_,false,.cap0,by simp,.inr ⟨rfl,rfl,rfl⟩,rfl⟩
 rintro q fr S ⟨k,a2,a9,m,o,hk,hl,rfl⟩
 rw [←wp_W,e26_0]
 by_cases h:k<2 ^ n
 ·obtain ⟨t,S',e,a,b⟩:=app_bools (n':=false) (o':=.ro) F k hl (by omega)
  change appD 1 false (.sl 1 m (((List.range k).map F).map fun b=>[.b b]) o) (.sl 1 false [[.b (!f (bitsA k))]] .ro) S=_ at e
  have h':(k:Int)<((tabOf n f).length:Int):=by rw [tabOf_len];omega
  simp [-OX_b,-List.map_map,s26_0,h',ia_bools (tabOf_get f h),e,wrapS (show Bd k by unfold Bd;omega)]
  exact ⟨q-1,by omega,k+1,_,_,false,.tok t,by omega,.tok a,rfl⟩
 ·have hk':k=2 ^ n:=by omega
  have h':¬(k:Int)<((tabOf n f).length:Int):=by rw [tabOf_len];omega
  simp [-List.map_map,s26_0,h',e26_r0,s26_r0]
  rw [hk'] at hl ⊢
  rw [hl.false (Nat.two_pow_pos _)]
  rfl
theorem v28 (nl nl':Bool) (n:Nat) (h7:n≤7) (f g:(Nat→Bool)→Bool):isoCall (call dp) 28 [eBools nl (tabOf n f),eBools nl' (tabOf n g)]=some (eBools false (tabOf n fun s=>f s&&g s)):=by
 have hp:=pow7 h7
 apply i28 _ _ _ (by simp [noRefL]) (by simp)
 simp [s28]
 let F:Nat→Bool:=fun x=>f (bitsA x)&&g (bitsA x)
 let J:Nat→List D→Store→Prop:=fun q fr S=>∃ k a4 a11 m o,k+q=2 ^ n∧LivC S m k o ∧
  fr=mkf 28 [(0,eBools nl (tabOf n f)),(1,eBools nl' (tabOf n g)),(4,a4),(5,.sl 1 m (((List.range k).map F).map fun b=>[.b b]) o),(6,.i .i64 k),(11,a11)]
 refine W_loop J ?_ (2 ^ n) _ _ ⟨0,_,_,false,.cap0,by simp,.inr ⟨rfl,rfl,rfl⟩,rfl⟩
 rintro q fr S ⟨k,a4,a11,m,o,hk,hl,rfl⟩
 rw [←wp_W,e28_0]
 by_cases h:k<2 ^ n
 ·obtain ⟨t,S',e,a,b⟩:=app_bools (n':=false) (o':=.ro) F k hl (by omega)
  change appD 1 false (.sl 1 m (((List.range k).map F).map fun b=>[.b b]) o) (.sl 1 false [[.b (f (bitsA k)&&g (bitsA k))]] .ro) S=_ at e
  have h':(k:Int)<((tabOf n f).length:Int):=by rw [tabOf_len];omega
  have fin:∃ m',m'<q∧J m' (mkf 28 [(0,eBools nl (tabOf n f)),(1,eBools nl' (tabOf n g)),(4,a4),(5,.sl 1 false (((List.range (k+1)).map F).map fun b=>[.b b]) (.tok t)),(6,.i .i64 ((k+1:Nat):Int)),(11,.top)]) S':=
   ⟨q-1,by omega,k+1,_,_,false,.tok t,by omega,.tok a,rfl⟩
  cases hf:f (bitsA k) with
  | true=>
   simp only [hf,Bool.true_and] at e
   simp [-OX_b,-List.map_map,s28_0,h',ia_bools (tabOf_get f h),ia_bools (tabOf_get g h),hf,e,wrapS (show Bd k by unfold Bd;omega)]
   simpa [-List.map_map] using fin
  | false=>
   simp only [hf,Bool.false_and] at e
   simp [-OX_b,-List.map_map,s28_0,h',ia_bools (tabOf_get f h),hf,e,wrapS (show Bd k by unfold Bd;omega)]
   simpa [-List.map_map] using fin
 ·have hk':k=2 ^ n:=by omega
  have h':¬(k:Int)<((tabOf n f).length:Int):=by rw [tabOf_len];omega
  simp [-List.map_map,s28_0,h',e28_r0,s28_r0]
  rw [hk'] at hl ⊢
  rw [hl.false (Nat.two_pow_pos _)]
  rfl
theorem v29 (nl nl':Bool) (n:Nat) (h7:n≤7) (f g:(Nat→Bool)→Bool):isoCall (call dp) 29 [eBools nl (tabOf n f),eBools nl' (tabOf n g)]=some (eBools false (tabOf n fun s=>f s || g s)):=by
 have hp:=pow7 h7
 apply i29 _ _ _ (by simp [noRefL]) (by simp)
 simp [s29]
 let F:Nat→Bool:=fun x=>f (bitsA x) || g (bitsA x)
 let J:Nat→List D→Store→Prop:=fun q fr S=>∃ k a4 a11 m o,k+q=2 ^ n∧LivC S m k o ∧
  fr=mkf 28 [(0,eBools nl (tabOf n f)),(1,eBools nl' (tabOf n g)),(4,a4),(5,.sl 1 m (((List.range k).map F).map fun b=>[.b b]) o),(6,.i .i64 k),(11,a11)]
 refine W_loop J ?_ (2 ^ n) _ _ ⟨0,_,_,false,.cap0,by simp,.inr ⟨rfl,rfl,rfl⟩,rfl⟩
 rintro q fr S ⟨k,a4,a11,m,o,hk,hl,rfl⟩
 rw [←wp_W,e29_0]
 by_cases h:k<2 ^ n
 ·obtain ⟨t,S',e,a,b⟩:=app_bools (n':=false) (o':=.ro) F k hl (by omega)
  change appD 1 false (.sl 1 m (((List.range k).map F).map fun b=>[.b b]) o) (.sl 1 false [[.b (f (bitsA k) || g (bitsA k))]] .ro) S=_ at e
  have h':(k:Int)<((tabOf n f).length:Int):=by rw [tabOf_len];omega
  have fin:∃ m',m'<q∧J m' (mkf 28 [(0,eBools nl (tabOf n f)),(1,eBools nl' (tabOf n g)),(4,a4),(5,.sl 1 false (((List.range (k+1)).map F).map fun b=>[.b b]) (.tok t)),(6,.i .i64 ((k+1:Nat):Int)),(11,.top)]) S':=
   ⟨q-1,by omega,k+1,_,_,false,.tok t,by omega,.tok a,rfl⟩
  cases hf:f (bitsA k) with
  | true=>
   simp only [hf,Bool.true_or] at e
   simp [-OX_b,-List.map_map,s29_0,h',ia_bools (tabOf_get f h),hf,e,wrapS (show Bd k by unfold Bd;omega)]
   simpa [-List.map_map] using fin
  | false=>
   simp only [hf,Bool.false_or] at e
   simp [-OX_b,-List.map_map,s29_0,h',ia_bools (tabOf_get f h),ia_bools (tabOf_get g h),hf,e,wrapS (show Bd k by unfold Bd;omega)]
   simpa [-List.map_map] using fin
 ·have hk':k=2 ^ n:=by omega
  have h':¬(k:Int)<((tabOf n f).length:Int):=by rw [tabOf_len];omega
  simp [-List.map_map,s29_0,h',e29_r0,s29_r0]
  rw [hk'] at hl ⊢
  rw [hl.false (Nat.two_pow_pos _)]
  rfl
theorem v19 (n:Nat) (h7:n≤7) (c:Bool):isoCall (call dp) 19 [.i .i64 n,.b c]=some (eBools false (tabOf n fun _=>c)):=by
 have hp:=pow7 h7
 apply i19 _ _ _ (by simp [noRefL]) (by simp)
 simp [s19]
 let F:Nat→Bool:=fun _=>c
 let J:Nat→List D→Store→Prop:=fun q fr S=>∃ k a4 a11 m o,k+q=2 ^ n∧LivC S m k o ∧
  fr=mkf 19 [(0,.i .i64 n),(1,.b c),(4,a4),(5,.sl 1 m (((List.range k).map F).map fun b=>[.b b]) o),(6,.i .i64 k),(11,a11)]
 refine W_loop J ?_ (2 ^ n) _ _ ⟨0,_,_,false,.cap0,by simp,.inr ⟨rfl,rfl,rfl⟩,rfl⟩
 rintro q fr S ⟨k,a4,a11,m,o,hk,hl,rfl⟩
 rw [←wp_W,e19_0]
 have hsh:=shl1 (n:=n) (by omega)
 by_cases h:k<2 ^ n
 ·obtain ⟨t,S',e,a,b⟩:=app_bools (n':=false) (o':=.ro) F k hl (by omega)
  have h':(k:Int)<((2 ^ n:Nat):Int):=by omega
  have fin:∃ m',m'<q∧J m' (mkf 19 [(0,.i .i64 n),(1,.b c),(4,a4),(5,.sl 1 false (((List.range (k+1)).map F).map fun b=>[.b b]) (.tok t)),(6,.i .i64 ((k+1:Nat):Int)),(11,.top)]) S':=
   ⟨q-1,by omega,k+1,_,_,false,.tok t,by omega,.tok a,rfl⟩
  simp only [s19_0,hsh,OX_some,bin_lss,h',decide_true,WB_true,cellsV_b,OX_b,if_true]
  rw [show [[D.b c]]=[[D.b (F k)]] from rfl,e]
  simp only [OX_some,bin_add,wrapS (show Bd k by unfold Bd;omega),Qseq_normal]
  exact fin
 ·have hk':k=2 ^ n:=by omega
  have h':¬(k:Int)<((2 ^ n:Nat):Int):=by omega
  simp [-List.map_map,-Int.natCast_pow,s19_0,hsh,h',e19_r0,s19_r0]
  rw [hk'] at hl ⊢
  rw [hl.false (Nat.two_pow_pos _)]
  rfl
theorem v20 (n v:Nat) (h7:n≤7) (hv:v≤60):isoCall (call dp) 20 [.i .i64 n,.i .i64 v]=some (eBools false (tabOf n fun s=>s v)):=by
 have hp:=pow7 h7
 apply i20 _ _ _ (by simp [noRefL,noRef]) (by simp)
 simp [s20]
 let F:Nat→Bool:=fun x=>bitsA x v
 let J:Nat→List D→Store→Prop:=fun q fr S=>∃ k a4 a11 m o,k+q=2 ^ n∧LivC S m k o ∧
  fr=mkf 23 [(0,.i .i64 n),(1,.i .i64 v),(4,a4),(5,.sl 1 m (((List.range k).map F).map fun b=>[.b b]) o),(6,.i .i64 k),(11,a11)]
 refine W_loop J ?_ (2 ^ n) _ _ ⟨0,_,_,false,.cap0,by simp,.inr ⟨rfl,rfl,rfl⟩,rfl⟩
 rintro q fr S ⟨k,a4,a11,m,o,hk,hl,rfl⟩
 rw [←wp_W,e20_0]
 have hsh:=shl1 (n:=n) (by omega)
 by_cases h:k<2 ^ n
 ·obtain ⟨t,S',e,a,b⟩:=app_bools (n':=false) (o':=.ro) F k hl (by omega)
  have h':(k:Int)<((2 ^ n:Nat):Int):=by omega
  have fin:∃ m',m'<q∧J m' (mkf 23 [(0,.i .i64 n),(1,.i .i64 v),(4,a4),(5,.sl 1 false (((List.range (k+1)).map F).map fun b=>[.b b]) (.tok t)),(6,.i .i64 ((k+1:Nat):Int)),(11,.top)]) S':=
   ⟨q-1,by omega,k+1,_,_,false,.tok t,by omega,.tok a,rfl⟩
  have hbit:decide (((k / 2 ^ v % 2:Nat):Int)=1)=F k:=by
   simp only [F,bitsA]
   rw [Nat.testBit_eq_decide_div_mod_eq,decide_eq_decide]
   omega
  have hrem:=remN (a:=k / 2 ^ v) (b:=2) (by omega)
  rw [show ((2:Nat):Int)=2 from rfl] at hrem
  simp only [s20_0,hsh,OX_some,bin_lss,h',decide_true,WB_true,OX_b,if_true,shrN (a:=k) hv,hrem,bin_eql,hbit,cellsV_b]
  rw [e]
  simp only [OX_some,bin_add,wrapS (show Bd k by unfold Bd;omega),Qseq_normal]
  exact fin
 ·have hk':k=2 ^ n:=by omega
  have h':¬(k:Int)<((2 ^ n:Nat):Int):=by omega
  simp [-List.map_map,-Int.natCast_pow,s20_0,hsh,h',e20_r0,s20_r0]
  rw [hk'] at hl ⊢
  rw [hl.false (Nat.two_pow_pos _)]
  rfl
end Go.Proofs.YtjlmeikcfdanmaaGreatDoor.DE.V

namespace Go.Proofs.YtjlmeikcfdanmaaGreatDoor.BT
end Go.Proofs.YtjlmeikcfdanmaaGreatDoor.BT

namespace Go.Proofs.YtjlmeikcfdanmaaGreatDoor.DE
open Go
variable (cf:CallF) (a0 a1:D) (S:Store) (Q:QT) (Post:PT)
def s65 (cf:CallF) (a0 a1:D) (S:Store) (Post:PT):Prop:=
 bxx 2 true a1 S fun x1 S2=>OX (ldD S2 2 true x1) fun x3=>OX (isoCall cf 50 [a0,x3]) fun x4=>OX (binD .geq .num x4 (.i .i64 0)) fun x5=>Post x5 S2
theorem e65:wp cf c65 (frame0 d65 [a0,a1]) S (FinK d65.res Post)=s65 cf a0 a1 S Post:=wpS_of (by kernel_rfl)
theorem i65 (a0 a1:D) (r:D) (ha:noRefL (stripL [a0,a1])=true) (hr:noRef r=true) (h:s65 (call dp) (strip a0) (strip a1) [] fun d _=>stripT d=r):isoCall (call dp) 65 [a0,a1]=some r:=iso_s (f:=d65) rfl ⟨rfl,by decide⟩ ha hr (by rw [←e65] at h;exact h)
end Go.Proofs.YtjlmeikcfdanmaaGreatDoor.DE

namespace Go.Proofs.YtjlmeikcfdanmaaGreatDoor.DE.V
open Go BT
set_option maxRecDepth 20000
theorem ixOf_mem {r:Row}:∀ {l:List Row},0≤ixOf r l↔r∈l
 | []=>by simp [ixOf]
 | x::l=>by
  have ih:=ixOf_mem (r:=r) (l:=l)
  simp only [ixOf,List.mem_cons]
  split
  ·rename_i h;simp [h]
  ·rename_i h
   have hx:¬r=x:=fun e=>h e.symm
   simp only [hx,false_or,←ih]
   split <;> omega
theorem v65 (nl:Bool) (l:List Row) (r:Row) (hb:Bd l.length):isoCall (call dp) 65 [eRows nl l,.agg (eRow r)]=some (.b (decide (r∈l))):=by
 apply i65 _ _ _ (by simp [noRefL]) rfl
 have e:=v50 nl l r hb
 have:decide (r∈l)=decide (0≤ixOf r l):=by rw [decide_eq_decide,ixOf_mem]
 rw [this]
 simp [-OX_b,s65,e]
end Go.Proofs.YtjlmeikcfdanmaaGreatDoor.DE.V

namespace Go.Proofs.YtjlmeikcfdanmaaGreatDoor.DE.V
open Go BT
set_option linter.unusedSimpArgs false
set_option linter.unusedVariables false
section
variable {α:Type} (v:α→List Row)
def vaIt (p:Vl × α):List Row:=v p.2
def vaFc (f:Fc α):List Row:=(if f.kind=0 then [f.row] else [])++(f.args.flatMap v++f.items.flatMap (vaIt v))
def vaTm (t:Tm α):List Row:=t.fs.flatMap (vaFc v)
def vaAn (x:An α):List Row:=x.ts.flatMap (vaTm v)
end
def vaAnn:(n:Nat)→Ann n→List Row
 | 0,x=>nomatch x
 | n+1,x=>vaAn (vaAnn n) x
def flT {α β:Type} (f:α→List β) (l:List α) (k:Nat):List β:=(l.take k).flatMap f
theorem flT_succ {α β:Type} (f:α→List β) {l:List α} {k:Nat} {x:α} (h:l[k]? = some x):flT f l (k+1)=flT f l k++f x:=by
 simp only [flT];rw [take_snoc h];simp
theorem flT_all {α β:Type} (f:α→List β) {l:List α} {k:Nat} (h:l.length≤k):flT f l k=l.flatMap f:=by rw [flT,List.take_of_length_le h]
theorem flT_len {α β:Type} (f:α→List β) {l:List α} {k:Nat} {x:α} (h:l[k]? = some x):(flT f l k).length+(f x).length≤(l.flatMap f).length:=by
 have h1:l.flatMap f=flT f l (k+1)++(l.drop (k+1)).flatMap f:=by rw [flT,←List.flatMap_append,List.take_append_drop]
 rw [h1,flT_succ f h]
 simp only [List.length_append];omega
def OutOk (S:Store) (ob:Nat) (L:List Row):Prop:=∃ nl o,sget S ob=some (.box [.sl 2 nl (L.map eRow) o])∧Liv S nl L.length o
def PresX (ob:Nat) (S S':Store):Prop:=S.length≤S'.length∧∀ id cs,id≠ob→sget S id=some (.box cs)→sget S' id=some (.box cs)
theorem PresX.refl (ob:Nat) (S:Store):PresX ob S S:=⟨Nat.le_refl _,fun _ _ _ h=>h⟩
theorem PresX.trans {ob:Nat} {S S' S'':Store} (h:PresX ob S S') (k:PresX ob S' S''):PresX ob S S'':=⟨Nat.le_trans h.1 k.1,fun id cs q e=>k.2 id cs q (h.2 id cs q e)⟩
theorem PresX.push (ob:Nat) (e:Ent) (S:Store):PresX ob S (e::S):=⟨by simp,fun _ _ _ h=>sget_push h⟩
theorem OutOk.push {S:Store} {ob:Nat} {L:List Row} (e:Ent) (h:OutOk S ob L):OutOk (e::S) ob L:=by
 obtain ⟨nl,o,h1,h2⟩:=h
 exact ⟨nl,o,sget_push h1,h2.push e⟩
theorem OutOk.lt {S:Store} {ob:Nat} {L:List Row} (h:OutOk S ob L):ob<S.length:=by obtain ⟨nl,o,h1,_⟩:=h;exact sget_lt h1
@[simp] theorem FinK_ret0 (Post:D→Store→Prop) (fr:List D) (S:Store):FinK [] Post .ret fr S=Post (.tup []) S:=(rfl)
section
variable {α:Type} {e:α→D}
theorem v104 (he:GE e) (f:Fc α) {S:Store} {ob:Nat} {L:List Row} (h:OutOk S ob L) (hl:L.length≤1000) :
  ∃ r S',call dp 104 [.agg (eAt e f),.bx ob 0] S=some (r,S')∧OutOk S' ob (L++(if f.kind=0 then [f.row] else []))∧PresX ob S S':=by
 refine f104 _ _ _ (fun r S'=>OutOk S' ob (L++(if f.kind=0 then [f.row] else []))∧PresX ob S S') ?_
 have hlt:=h.lt
 simp [s104,jn]
 split
 ·rename_i h0
  obtain ⟨nl,o,h1,h2⟩:=h
  have hpush:sget (Ent.box (eAt e f)::S) ob=_:=sget_push h1
  obtain ⟨t,S',q1,q2,q3,q4,q5,q6,q7⟩:=app_liv (k:=2) (n':=false) (xs:=L.map eRow) (ys:=[eRow f.row]) (o':=.ro) (S:=Ent.box (eAt e f)::S) (by simpa using h2.push _) (by simp [maxLenD];omega) (by simp)
  have hob:=q3 _ _ hpush
  have hne:¬ob=S.length:=by omega
  simp [hne,h1,q1,hob]
  have htne:t≠ob:=by rw [q6];simp;omega
  refine ⟨⟨false,.tok t,?_,.inr ⟨rfl,t,rfl,?_⟩⟩,?_⟩
  ·rw [sget_sset _ (sget_lt hob)];simp
  ·rw [sget_sset_ne _ htne];exact q2
  ·refine ⟨by rw [sset_len,q5];simp;omega,fun id cs hid hcs=>?_⟩
   rw [sget_sset_ne _ hid]
   exact q3 _ _ (sget_push hcs)
 ·simp
  exact ⟨h.push _,PresX.push _ _ _⟩
variable {v:α→List Row} {ok:α→Prop}
def EvsO (e:α→D) (ok:α→Prop) (v:α→List Row):Prop:=∀ a ob L S,ok a→OutOk S ob L→L.length+(v a).length≤1000→∃ r S',call dp 103 [e a,.fn 104 [.bx ob 0]] S=some (r,S')∧OutOk S' ob (L++v a)∧PresX ob S S'
set_option maxHeartbeats 1000000 in
theorem v103s (he:GE e) (H:EvsO e ok v):EvsO (eAn e) (OkAn ok) (vaAn v):=by
 intro x ob L S0 hx hout hlen
 have hxl:=hx.len
 refine f103 _ _ _ (fun r S'=>OutOk S' ob (L++vaAn v x)∧PresX ob S0 S') ?_
 simp [s103]
 let J:Nat→List D→Store→Prop:=fun q fr S=>∃ k b7 b15 b19 b20 b21 b22 b31 b32 b33 b34 b43 b44 b45 b46,fr=mkf 56 [(1,.fn 104 [.bx ob 0]),(7,b7),(12,eAn e x),(13,.i .i64 x.ts.length),(14,.i .i64 (k:Nat)),(15,b15),(19,b19),(20,b20),(21,b21),(22,b22),(31,b31),(32,b32),(33,b33),(34,b34),(43,b43),(44,b44),(45,b45),(46,b46)]∧k+q=x.ts.length∧OutOk S ob (L++flT (vaTm v) x.ts k)∧PresX ob S0 S
 refine W_loop J ?_ x.ts.length _ _ ⟨0,_,_,_,_,_,_,_,_,_,_,_,_,_,_,rfl,by simp,by simpa [flT] using hout,PresX.refl _ _⟩
 intro q fr S hJ;obtain ⟨k,b7,b15,b19,b20,b21,b22,b31,b32,b33,b34,b43,b44,b45,b46,hfr,hk,ho,hp⟩:=hJ;rw [hfr]
 rw [←wp_W,e103_3]
 simp [s103_3]
 split
 ·rename_i h
  obtain ⟨t,ht⟩:=get_lt (l:=x.ts) (k:=k) (by omega)
  have hot:=hx.ts t (List.mem_of_getElem? ht)
  have htl:=hot.len
  have hz:=flT_len (vaTm v) ht
  have hz':(x.ts.flatMap (vaTm v)).length=(vaAn v x).length:=rfl
  simp [iaD_eAn e _ ht]
  obtain ⟨L2,hL2⟩:∃ L2,L2=L++flT (vaTm v) x.ts k:=⟨_,rfl⟩
  have hL2l:L2.length=L.length+(flT (vaTm v) x.ts k).length:=by rw [hL2];simp
  rw [←hL2] at ho
  let J2:Nat→List D→Store→Prop:=fun q fr S=>∃ i b7 b15 b22 b31 b32 b33 b34 b43 b44 b45 b46,fr=mkf 56 [(1,.fn 104 [.bx ob 0]),(7,b7),(12,eAn e x),(13,.i .i64 x.ts.length),(14,.i .i64 (k:Nat)),(15,b15),(19,eFcs e t.nl t.fs),(20,.i .i64 t.fs.length),(21,.i .i64 (i:Nat)),(22,b22),(31,b31),(32,b32),(33,b33),(34,b34),(43,b43),(44,b44),(45,b45),(46,b46)]∧i+q=t.fs.length∧OutOk S ob (L2++flT (vaFc v) t.fs i)∧PresX ob S0 S
  refine W_loop J2 ?_ t.fs.length _ _ ⟨0,_,_,_,_,_,_,_,_,_,_,_,rfl,by simp,by simpa [flT] using ho.push _,hp.trans (PresX.push _ _ _)⟩
  intro q2 fr S hJ;obtain ⟨i,b7,b15,b22,b31,b32,b33,b34,b43,b44,b45,b46,hfr,hi,ho2,hp2⟩:=hJ;rw [hfr]
  rw [←wp_W,e103_2]
  simp [s103_2]
  split
  ·rename_i h2
   obtain ⟨f,hf⟩:=get_lt (l:=t.fs) (k:=i) (by omega)
   have hof:=hot.fs f (List.mem_of_getElem? hf)
   have hal:=hof.alen
   have hil:=hof.ilen
   have hz2:=flT_len (vaFc v) hf
   have hz2':(t.fs.flatMap (vaFc v)).length=(vaTm v t).length:=rfl
   obtain ⟨K0,hK0⟩:∃ K0:List Row,K0=if f.kind=0 then [f.row] else []:=⟨_,rfl⟩
   have hz3:(vaFc v f).length=K0.length+((f.args.flatMap v).length+(f.items.flatMap (vaIt v)).length):=by rw [vaFc,←hK0];simp
   obtain ⟨id,hid⟩:∃ id,id=S.length:=⟨_,rfl⟩
   obtain ⟨r,S1,c1,o1,p1⟩:=v104 he f (ho2.push (Ent.box (eFc e f))) (by simp only [List.length_append];omega)
   rw [←hK0] at o1
   have hob:=ho2.lt
   have hS1:sget S1 id=some (.box (eFc e f)):=p1.2 _ _ (by omega) (by rw [hid];exact sget_top _ _)
   simp [iaD_eFcs e _ hf,c1]
   rw [←hid]
   simp [hS1]
   obtain ⟨L3,hL3⟩:∃ L3,L3=L2++flT (vaFc v) t.fs i++K0:=⟨_,rfl⟩
   have hL3l:L3.length=L2.length+(flT (vaFc v) t.fs i).length+K0.length:=by rw [hL3];simp only [List.length_append]
   rw [←hL3] at o1
   let J3:Nat→List D→Store→Prop:=fun q fr S=>∃ j b15 b22 b34 b43 b44 b45 b46,fr=mkf 56 [(1,.fn 104 [.bx ob 0]),(7,.bx id 0),(12,eAn e x),(13,.i .i64 x.ts.length),(14,.i .i64 (k:Nat)),(15,b15),(19,eFcs e t.nl t.fs),(20,.i .i64 t.fs.length),(21,.i .i64 (i:Nat)),(22,b22),(31,eArgs e f.anl f.args),(32,.i .i64 f.args.length),(33,.i .i64 (j:Nat)),(34,b34),(43,b43),(44,b44),(45,b45),(46,b46)]∧j+q=f.args.length∧OutOk S ob (L3++flT v f.args j)∧PresX ob S0 S∧sget S id=some (.box (eFc e f))
   refine W_loop J3 ?_ f.args.length _ _ ⟨0,_,_,_,_,_,_,_,rfl,by simp,by simpa [flT] using o1,(hp2.trans (PresX.push _ _ _)).trans p1,hS1⟩
   intro q3 fr S hJ;obtain ⟨j,b15,b22,b34,b43,b44,b45,b46,hfr,hj,ho3,hp3,hS⟩:=hJ;rw [hfr]
   rw [←wp_W,e103_1]
   simp [s103_1]
   split
   ·rename_i h3
    obtain ⟨a,ha⟩:=get_lt (l:=f.args) (k:=j) (by omega)
    have hz4:=flT_len v ha
    obtain ⟨r,S2,c2,o2,p2⟩:=H a ob _ S (hof.args a (List.mem_of_getElem? ha)) ho3 (by simp only [List.length_append];omega)
    simp [iaD_eArgs e _ ha,c2]
    rw [wrapL (k:=j) h3 hof.alen]
    have hob3:=ho3.lt
    exact ⟨q3-1,by omega,⟨j+1,_,_,_,_,_,_,_,rfl,by omega,by rw [flT_succ _ ha,←List.append_assoc];exact o2,hp3.trans p2,p2.2 _ _ (by rintro rfl;obtain ⟨_,_,hbad,_⟩:=ho3;rw [hS] at hbad;injection hbad with hbad;injection hbad with hbad;simp [eFc] at hbad) hS⟩⟩
   ·have hje:=flT_all v (show f.args.length≤j by omega)
    rw [hje] at ho3
    simp [e103_r0,s103_r0,hS]
    obtain ⟨L4,hL4⟩:∃ L4,L4=L3++f.args.flatMap v:=⟨_,rfl⟩
    have hL4l:L4.length=L3.length+(f.args.flatMap v).length:=by rw [hL4];simp only [List.length_append]
    rw [←hL4] at ho3
    let J4:Nat→List D→Store→Prop:=fun q fr S=>∃ j b7 b15 b22 b31 b32 b33 b34 b46,fr=mkf 56 [(1,.fn 104 [.bx ob 0]),(7,b7),(12,eAn e x),(13,.i .i64 x.ts.length),(14,.i .i64 (k:Nat)),(15,b15),(19,eFcs e t.nl t.fs),(20,.i .i64 t.fs.length),(21,.i .i64 (i:Nat)),(22,b22),(31,b31),(32,b32),(33,b33),(34,b34),(43,eItems e f.inl f.items),(44,.i .i64 f.items.length),(45,.i .i64 (j:Nat)),(46,b46)]∧j+q=f.items.length∧OutOk S ob (L4++flT (vaIt v) f.items j)∧PresX ob S0 S
    refine W_loop J4 ?_ f.items.length _ _ ⟨0,_,_,_,_,_,_,_,_,rfl,by simp,by simpa [flT] using ho3,hp3⟩
    intro q4 fr S hJ;obtain ⟨j,b7,b15,b22,b31,b32,b33,b34,b46,hfr,hj,ho4,hp4⟩:=hJ;rw [hfr]
    rw [←wp_W,e103_0]
    simp [s103_0]
    split
    ·rename_i h4
     obtain ⟨p,hp⟩:=get_lt (l:=f.items) (k:=j) (by omega)
     have hz5:=flT_len (vaIt v) hp
     have hz5':(vaIt v p).length=(v p.2).length:=rfl
     obtain ⟨r,S2,c2,o2,p2⟩:=H p.2 ob _ (Ent.box (eIt e p)::S) (hof.items p (List.mem_of_getElem? hp)).2 (ho4.push _) (by simp only [List.length_append];omega)
     simp [iaD_eItems e _ hp,cellsK_it e he,c2]
     rw [wrapL (k:=j) h4 hof.ilen]
     exact ⟨q4-1,by omega,⟨j+1,_,_,_,_,_,_,_,_,rfl,by omega,by rw [flT_succ _ hp,←List.append_assoc];exact o2,(hp4.trans (PresX.push _ _ _)).trans p2⟩⟩
    ·have hje:=flT_all (vaIt v) (show f.items.length≤j by omega)
     rw [hje] at ho4
     simp [e103_r1,s103_r1]
     rw [wrapL (k:=i) h2 hot.len]
     refine ⟨q2-1,by omega,⟨i+1,_,_,_,_,_,_,_,_,_,_,_,rfl,by omega,?_,hp4⟩⟩
     rw [flT_succ _ hf,vaFc,←hK0]
     rw [hL4,hL3] at ho4
     simpa only [List.append_assoc] using ho4
  ·have hje:=flT_all (vaFc v) (show t.fs.length≤i by omega)
   rw [hje] at ho2
   simp [e103_r2,s103_r2]
   rw [wrapL (k:=k) h hx.len]
   refine ⟨q-1,by omega,⟨k+1,_,_,_,_,_,_,_,_,_,_,_,_,_,_,rfl,by omega,?_,hp2⟩⟩
   rw [flT_succ _ ht,←List.append_assoc,←hL2]
   exact ho2
 ·have hje:=flT_all (vaTm v) (show x.ts.length≤k by omega)
  rw [hje] at ho
  exact ⟨ho,hp⟩
end
theorem v103:∀ n,EvsO (eAnn n) (OkAnn n) (vaAnn n)
 | 0=>fun x=>nomatch x
 | n+1=>v103s (GE_eAnn n) (v103 n)
theorem flat_len {α β:Type} {f:α→List β} {g:α→Nat}:∀ {l:List α},(∀ x,x∈l→(f x).length≤g x)→(l.flatMap f).length≤(l.map g).sum
 | [],_=>Nat.le_refl _
 | x::l,h=>by have:=flat_len (l:=l) fun y hy=>h y (by simp [hy]);have:=h x (by simp);simp only [List.flatMap_cons,List.length_append,List.map_cons,List.sum_cons];omega
section
variable {α:Type} {v:α→List Row} {w:α→Nat}
theorem vaFc_le (h:∀ a,(v a).length≤w a) (f:Fc α):(vaFc v f).length≤1+wFc w f:=by
 have h1:=flat_len (l:=f.args) (f:=v) (g:=w) fun x _=>h x
 have h2:=flat_len (l:=f.items) (f:=vaIt v) (g:=wIt w) fun x _=>by have:=h x.2;simp only [vaIt,wIt];omega
 have h3:(if f.kind=0 then [f.row] else []).length≤1:=by split <;> simp
 simp only [vaFc,List.length_append,wFc];omega
theorem vaTm_le (h:∀ a,(v a).length≤w a) (t:Tm α):(vaTm v t).length≤wTm w t:=by
 have h1:=flat_len (l:=t.fs) (f:=vaFc v) (g:=fun f=>1+wFc w f) fun x _=>vaFc_le h x
 rw [sum_one] at h1
 simp only [vaTm,wTm];omega
theorem vaAn_le (h:∀ a,(v a).length≤w a) (x:An α):(vaAn v x).length≤wAn w x:=flat_len fun t _=>vaTm_le h t
end
theorem vaAnn_le:∀ n x,(vaAnn n x).length≤wAnn n x
 | 0,x=>nomatch x
 | n+1,x=>vaAn_le (vaAnn_le n) x
theorem Asc_nodup {s:List Row} (h:Asc s):s.Nodup:=List.Pairwise.imp (fun {a b} hab e=>by subst e;simp [ltR,cmpZ,cmpI] at hab) h
theorem v63 (x:SA) (hx:okS x) (hw:wS x≤40):∃ s nl,isoCall (call dp) 63 [eS x]=some (eRows nl s)∧(∀ r,r∈s↔r∈vaAnn x.1 x.2)∧s.length≤1000000:=by
 have hl:=vaAnn_le x.1 x.2
 have hl':(vaAnn x.1 x.2).length≤40:=Nat.le_trans hl hw
 suffices hh:∃ d,isoCall (call dp) 63 [eS x]=some d∧∃ s nl,d=eRows nl s∧(∀ r,r∈s↔r∈vaAnn x.1 x.2)∧s.length≤1000000 by
  obtain ⟨d,h1,s,nl,rfl,h2⟩:=hh
  exact ⟨s,nl,h1,h2⟩
 apply j63 _ _ (by simp [noRefL,(GE_eAnn _).noRef,GE_eS.noRef,GE_eS.strip]) (by rintro d ⟨s,nl,rfl,_⟩;simp)
 have hstr:strip (eS x)=eS x:=GE_eS.strip x
 simp only [s63,hstr,al_eq]
 obtain ⟨r,S',c1,⟨nl,o,o1,o2⟩,p1⟩:=v103 x.1 x.2 0 [] [Ent.box [.sl 2 true [] .ro]] hx ⟨true,.ro,rfl,.inl ⟨rfl,rfl,rfl⟩⟩ (by simp;omega)
 have c1:call dp 103 [eS x,.fn 104 [.bx 0 0]] [Ent.box [.sl 2 true [] .ro]]=some (r,S'):=c1
 have hnl:nl=true→([]++vaAnn x.1 x.2)=[]:=by
  rcases o2 with ⟨_,h,_⟩ | ⟨h,_⟩
  ·intro _;exact List.length_eq_zero_iff.1 h
  ·rw [h];intro h;cases h
 obtain ⟨s,nl',e81,hs,hm,hn'⟩:=v81 nl ([]++vaAnn x.1 x.2) hnl (by simp;omega)
 have e81':isoCall (call dp) 81 [.sl 2 nl (([]++vaAnn x.1 x.2).map eRow) o]=some (eRows nl' s):=by
  rw [isoCall_strip];exact e81
 simp only [List.length_nil,c1,OX_some,ldD_bx,o1,ldE_box,rdK_one,List.getElem?_cons_zero,e81']
 refine ⟨s,nl',rfl,fun r=>by rw [hm];simp,?_⟩
 have hnd:s.Nodup:=Asc_nodup hs
 have:=nodup_len (M:=s) (L:=vaAnn x.1 x.2) hnd (fun r hr=>by have:=(hm r).1 hr;simpa using this)
 omega
theorem v64 {S:Store} {ib:Nat} {nl:Bool} {ord:List Row} (r:Row) (hb:Bd ord.length) (h:sget S ib=some (.box [eRows nl ord])) :
  ∃ d S',call dp 64 [.agg (eRow r),.bx ib 0] S=some (d,S')∧d = .b (!decide (r∈ord))∧S' = .box (eRow r)::S:=by
 refine f64 _ _ _ (fun d S'=>d = .b (!decide (r∈ord))∧S' = .box (eRow r)::S) ?_
 have:=sget_lt h
 have e:=v65 nl ord r hb
 simp [-OX_b,s64,h,show ¬ib=S.length by omega,e]
theorem v102 (nl:Bool) (l:List Row) (hb:Bd l.length) {S0:Store} {ib:Nat} {nl':Bool} {ord:List Row} (hbo:Bd ord.length) (p:Row→Bool) (hp:p=fun r=>!decide (r∈ord)) (h:sget S0 ib=some (.box [eRows nl' ord])) :
  ∃ r S',call dp 102 [eRows nl l,.fn 64 [.bx ib 0]] S0=some (r,S')∧(∃ n:Int,r = .i .i64 n∧decide (0≤n)=l.any p)∧Pres S0 S':=by
 refine f102 _ _ _ (fun r S'=>(∃ n:Int,r = .i .i64 n∧decide (0≤n)=l.any p)∧Pres S0 S') ?_
 simp [s102]
 let J:Nat→List D→Store→Prop:=fun q fr S=>∃ k b4 b9,fr=mkf 19 [(0,eRows nl l),(1,.fn 64 [.bx ib 0]),(4,b4),(7,.i .i64 l.length),(8,.i .i64 (k:Nat)),(9,b9)]∧k+q=l.length∧l.any p=(l.drop k).any p∧Pres S0 S
 refine W_loop J ?_ l.length _ _ ⟨0,_,_,rfl,by simp,by simp,Pres.refl _⟩
 intro q fr S hJ;obtain ⟨k,b4,b9,hfr,hk,hc,hP⟩:=hJ;rw [hfr]
 rw [←wp_W,e102_0]
 simp [s102_0]
 split
 ·rename_i hk'
  obtain ⟨x,hx⟩:=get_lt (l:=l) (k:=k) (by omega)
  obtain ⟨r,S',c1,rfl,rfl⟩:=v64 x hbo (hP _ _ h)
  have hpx:p x = !decide (x∈ord):=by rw [hp]
  rw [drop_get hx,List.any_cons] at hc
  rw [←hpx] at c1
  simp [iaD_rows _ hx,c1]
  split
  ·rename_i hpx'
   simp only [hpx',Bool.true_or] at hc
   have:=List.any_eq_true.1 hc
   exact ⟨by simpa using this,hP.trans (Pres.push _ _)⟩
  ·rename_i hpx'
   simp only [hpx',Bool.false_or] at hc
   rw [wrapS (k:=k) (hb.lt (Nat.le_of_lt hk'))]
   exact ⟨q-1,by omega,⟨k+1,_,_,rfl,by omega,hc,hP.trans (Pres.push _ _)⟩⟩
 ·rw [List.drop_eq_nil_of_le (show l.length≤k by omega)] at hc
  simp [e102_r0,s102_r0]
  exact ⟨by simpa using hc,hP⟩
theorem v62 (nl:Bool) (l:List Row) (hb:Bd l.length) {S0:Store} {ib:Nat} {nl':Bool} {ord:List Row} (hbo:Bd ord.length) (h:sget S0 ib=some (.box [eRows nl' ord])) :
  ∃ S',call dp 62 [eRows nl l,.fn 64 [.bx ib 0]] S0=some (.b (l.any fun r=>!decide (r∈ord)),S')∧Pres S0 S':=by
 obtain ⟨r,S',c,⟨n,rfl,hn⟩,hp⟩:=v102 nl l hb hbo _ rfl h
 obtain ⟨d,S'',c2,rfl,h2⟩:=f62 (eRows nl l) (.fn 64 [.bx ib 0]) S0 (fun d S'=>d = .b (l.any fun r=>!decide (r∈ord))∧Pres S0 S') (by
  simp only [s62,c,OX_some,bin_geq,hn]
  exact ⟨trivial,hp⟩)
 exact ⟨S'',c2,h2⟩
end Go.Proofs.YtjlmeikcfdanmaaGreatDoor.DE.V

namespace Go.Proofs.YtjlmeikcfdanmaaGreatDoor.DE.V
open Go BT
set_option linter.unusedSimpArgs false
set_option linter.unusedVariables false
noncomputable def limT (N:Int) (t:T):Option T:=if N<((post t []).length:Int) then none else some t
section
variable {α:Type} (b:α→Option T) (ord:List Row) (N:Int)
noncomputable def atL (kind:Int) (t:T):List α→Option T
 | []=>none
 | c::_=>match b c with
  | none=>none
  | some s=>limT N (opT ord.length false t (notT s))
noncomputable def atK (kind:Int):List α→Option T
 | []=>none
 | a::l=>match b a with
  | none=>none
  | some t=>if kind=2 then some t else if kind=3 then some (notT t) else atL b ord N kind t l
noncomputable def atT (f:Fc α):Option T:=if f.kind=0 then some (varT (ixOf f.row ord).toNat) else atK b ord N f.kind f.args
noncomputable def tmL:T→List (Fc α)→Option T
 | acc,[]=>some acc
 | acc,f::l=>match atT b ord N f with
  | none=>none
  | some x=>match limT N (opT ord.length false acc x) with
   | none=>none
   | some a=>tmL a l
noncomputable def anL:T→List (Tm α)→Option T
 | acc,[]=>some acc
 | acc,t::l=>match tmL b ord N (.leaf true) t.fs with
  | none=>none
  | some x=>match limT N (opT ord.length true acc x) with
   | none=>none
   | some a=>anL a l
noncomputable def buAn (x:An α):Option T:=anL b ord N (.leaf false) x.ts
def gdFc (g:α→Prop) (f:Fc α):Prop:=(f.kind=0∧f.row∈ord)∨(f.kind≠0∧∃ a l,f.args=a::l∧g a∧(f.kind=2∨f.kind=3∨∃ c l',l=c::l'∧g c))
def gdTm (g:α→Prop) (t:Tm α):Prop:=Len63 t.fs.length∧∀ f,f∈t.fs→gdFc ord g f
def gdAn (g:α→Prop) (x:An α):Prop:=Len63 x.ts.length∧∀ t,t∈x.ts→gdTm ord g t
end
noncomputable def buAnn (ord:List Row) (N:Int):(n:Nat)→Ann n→Option T
 | 0,x=>nomatch x
 | n+1,x=>buAn (buAnn ord N n) ord N x
def gdAnn (ord:List Row):(n:Nat)→Ann n→Prop
 | 0,x=>nomatch x
 | n+1,x=>gdAn ord (gdAnn ord n) x
noncomputable def cT (nl m:Bool) (ord:List Row) (t:T):List D:=[eRows nl ord,eNds m (nds (post t [])),.i .i64 (code (post t []) t)]
section
variable (nl m:Bool) (ord:List Row) (t:T)
@[simp] theorem cellsK_eT:cellsK 3 true (eT nl m ord t)=some (cT nl m ord t):=(rfl)
@[simp] theorem rdK_cT:rdK (cT nl m ord t) 0 3 true=some (eT nl m ord t):=(rfl)
@[simp high] theorem cT_0:(cT nl m ord t)[0]? = some (eRows nl ord):=(rfl)
@[simp high] theorem cT_1:(cT nl m ord t)[1]? = some (eNds m (nds (post t []))):=(rfl)
@[simp high] theorem cT_2:(cT nl m ord t)[2]? = some (.i .i64 (code (post t []) t)):=(rfl)
@[simp] theorem splice_cT (a b c:D):splice [a,b,c] 0 (cT nl m ord t)=cT nl m ord t:=(rfl)
@[simp] theorem splice_cT' (m':Bool) (s:T):splice (cT nl m ord t) 0 (cT nl m' ord s)=cT nl m' ord s:=(rfl)
@[simp] theorem cT_len:(cT nl m ord t).length=3:=(rfl)
@[simp] theorem noRef_eT:noRef (eT nl m ord t)=true:=by simp [eT]
@[simp] theorem strip_eT:strip (eT nl m ord t)=eT nl m ord t:=(rfl)
@[simp] theorem stripT_eT:stripT (eT nl m ord t)=eT nl m ord t:=(rfl)
end
@[simp] theorem cellsK_zB:cellsK 3 true zB=some [.sl 2 true [] .ro,.sl 3 true [] .ro,.i .i64 0]:=(rfl)
@[simp] theorem strip_zB:strip zB=zB:=(rfl)
@[simp] theorem noRef_zB:noRef zB=true:=by simp [zB]
theorem agg_zB:D.agg [.sl 2 true [] .ro,.sl 3 true [] .ro,.i .i64 0]=zB:=rfl
@[simp] theorem splice_z (a b c:D):splice [a,b,c] 0 [.sl 2 true [] .ro,.sl 3 true [] .ro,.i .i64 0]=[.sl 2 true [] .ro,.sl 3 true [] .ro,.i .i64 0]:=(rfl)
@[simp] theorem FinK_cell2 (n k:Nat) (g:Bool) (j:Nat) (Post:D→Store→Prop) (fr:List D) (S:Store):FinK [.cell n k g,.t j] Post .ret fr S=OX (ldc S k g (fget fr n)) fun d=>Post (.tup [d,fget fr j]) S:=(rfl)
theorem bldV_z:bldV [.sl 2 true [] .ro,.sl 3 true [] .ro,.i .i64 0] []=some [.sl 2 true [] .ro,.sl 3 true [] .ro,.i .i64 0]:=rfl
def RD (nl:Bool) (ord:List Row) (o:Option T) (d:D):Prop:=match o with
 | none=>d = .tup [zB,.i .i64 6]
 | some t=>Wf ord.length t∧∃ m,d = .tup [eT nl m ord t,.i .i64 0]
@[simp] theorem RD_err (nl:Bool) (ord:List Row):RD nl ord none (.tup [zB,.i .i64 6])=True:=by simp [RD]
theorem RD_mk {nl m:Bool} {ord:List Row} {t:T} (w:Wf ord.length t):RD nl ord (some t) (.tup [eT nl m ord t,.i .i64 0]):=⟨w,m,rfl⟩
theorem RD.noRef {nl:Bool} {ord:List Row} {o:Option T} {d:D} (h:RD nl ord o d):noRef d=true:=by
 cases o with
 | none=>simp only [RD] at h;subst h;simp [DE.noRef,noRefL]
 | some t=>obtain ⟨_,m,rfl⟩:=h;simp [DE.noRef,noRefL]
def eBu (nl:Bool) (ord:List Row) (N:Int):D:=.agg [eRows nl ord,.i .i64 N]
@[simp] theorem strip_eBu (nl:Bool) (ord:List Row) (N:Int):strip (eBu nl ord N)=eBu nl ord N:=(rfl)
@[simp] theorem noRef_eBu (nl:Bool) (ord:List Row) (N:Int):noRef (eBu nl ord N)=true:=by simp [eBu,DE.noRef,noRefL]
theorem v106 (nl m:Bool) (ord:List Row) (N:Int) (t:T) (hs:(post t []).length≤4096):isoCall (call dp) 106 [eBu nl ord N,eT nl m ord t,.i .i64 0]=some (match limT N t with | none=>.tup [zB,.i .i64 6] | some t=>.tup [eT nl m ord t,.i .i64 0]):=by
 apply i106 _ _ _ _ (by simp [noRefL]) (by unfold limT;split <;> simp [DE.noRef,noRefL])
 have hstr:strip (eBu nl ord N)=eBu nl ord N:=rfl
 rw [hstr]
 simp [s106,eBu,nds_len,limT]
 split
 ·simp [bldV_z,agg_zB]
 ·simp
variable {nl:Bool} {ord:List Row} {N:Int}
def BuOk {α:Type} (nl:Bool) (ord:List Row) (N:Int) (e:α→D) (g:α→Prop) (b:α→Option T):Prop:=∀ a,g a→∃ r,isoCall (call dp) 66 [eBu nl ord N,e a]=some r∧RD nl ord (b a) r
theorem limT_le {N:Int} {t s:T} (h:limT N t=some s):s=t:=by unfold limT at h;split at h;cases h;injection h with h;exact h.symm
theorem v160 {α:Type} {e:α→D} {g:α→Prop} {b:α→Option T} (he:GE e) (ho:OrdOk ord) (h7:ord.length≤7) (hn:nlOk nl ord) (H:BuOk nl ord N e g b) (f:Fc α) (hf:gdFc ord g f) :
  ∃ r,isoCall (call dp) 160 [eBu nl ord N,.agg (eAt e f)]=some r∧RD nl ord (atT b ord N f) r:=by
 apply j160 _ _ (RD nl ord (atT b ord N f)) (by simp [noRefL,noRef_agAt he]) (fun r h=>h.noRef)
 have hstr:strip (eBu nl ord N)=eBu nl ord N:=rfl
 rw [hstr,strip_agAt]
 have h66:∀ a,g a→∃ r,isoCall (call dp) 66 [.agg [eRows nl ord,.i .i64 N],e a]=some r∧RD nl ord (b a) r:=H
 have h106:=fun m N t hs=>v106 nl m ord N t hs
 simp only [eBu] at h106
 rcases hf with ⟨k0,hr⟩ | ⟨k0,a,l,hargs,hga,hk⟩
 ·have e14:=v14 nl ord f.row hn (by unfold Bd;omega)
  have hix:=ixOf_mem.2 hr
  have hlt:=(ixOf_lt f.row ord).1
  simp only [show OrdOk ord∧ord.length≤4096 from ⟨ho,by omega⟩,if_true,show ¬ixOf f.row ord<0 by omega,if_false,and_self] at e14
  obtain ⟨i,hi⟩:∃ i:Nat,ixOf f.row ord=i:=⟨(ixOf f.row ord).toNat,by omega⟩
  have hvT:eB nl false ord [((i:Int),0,1)] 2=eT nl false ord (varT i):=by simp [eT,varT,post,nds,nd,code,pos]
  rw [hi,hvT] at e14
  simp [s160,eBu,k0,e14,atT,hi]
  exact RD_mk (varT_wf (by omega))
 ·obtain ⟨r,c1,hr⟩:=h66 a hga
  rw [atT,if_neg k0,hargs,atK]
  cases hb:b a with
  | none=>
   rw [hb] at hr
   simp only [RD] at hr
   subst hr
   simp [s160,eBu,k0,hargs,c1,agg_zB]
  | some t=>
   rw [hb] at hr
   obtain ⟨wt,m,rfl⟩:=hr
   simp only
   by_cases k2:f.kind=2
   ·simp [s160,eBu,k2,hargs,c1]
    exact RD_mk wt
   ·by_cases k3:f.kind=3
    ·obtain ⟨m',_,e23⟩:=notT_spec nl m ord t ho h7 wt hn
     simp [s160,eBu,k3,hargs,c1,e23]
     exact RD_mk (Wf_not wt)
    ·rcases hk with hk | hk | ⟨c,l',rfl,hgc⟩
     ·exact absurd hk k2
     ·exact absurd hk k3
     ·obtain ⟨r,c2,hr⟩:=h66 c hgc
      rw [if_neg k2,if_neg k3,atL]
      cases hbc:b c with
      | none=>
       rw [hbc] at hr
       simp only [RD] at hr
       subst hr
       simp [s160,eBu,k0,k2,k3,hargs,c1,c2,agg_zB,bldV_z]
      | some s=>
       rw [hbc] at hr
       obtain ⟨ws,m2,rfl⟩:=hr
       obtain ⟨m3,_,e23⟩:=notT_spec nl m2 ord s ho h7 ws hn
       obtain ⟨m4,_,e21⟩:=andT nl m nl m3 ord t (notT s) ho h7 wt (Wf_not ws) hn hn
       have wo:=opT_wf ord.length false t (notT s)
       have hsz:=small h7 wo
       have e106:=h106 m4 N (opT ord.length false t (notT s)) (by omega)
       simp only
       cases hl:limT N (opT ord.length false t (notT s)) with
       | none=>
        rw [hl] at e106
        simp [s160,eBu,k0,k2,k3,hargs,c1,c2,e23,e21,e106,agg_zB]
       | some u=>
        rw [hl] at e106
        have hu:=limT_le hl
        subst hu
        simp [s160,eBu,k0,k2,k3,hargs,c1,c2,e23,e21,e106]
        exact RD_mk wo
theorem v13T (nl:Bool) (ord:List Row) (c:Bool) (ho:OrdOk ord) (h7:ord.length≤7) (hn:nlOk nl ord):isoCall (call dp) 13 [eRows nl ord,.b c]=some (eT nl true ord (.leaf c)):=by
 have e:=v13 nl ord c hn (by unfold Bd;omega)
 rw [if_pos ⟨ho,by omega⟩] at e
 rw [e]
 cases c <;> rfl
set_option maxHeartbeats 1000000 in
theorem v105 {α:Type} {e:α→D} {g:α→Prop} {b:α→Option T} (he:GE e) (ho:OrdOk ord) (h7:ord.length≤7) (hn:nlOk nl ord) (H:BuOk nl ord N e g b) (t:Tm α) (ht:gdTm ord g t) :
  ∃ r,isoCall (call dp) 105 [eBu nl ord N,.agg (eTm e t)]=some r∧RD nl ord (tmL b ord N (.leaf true) t.fs) r:=by
 generalize hR:tmL b ord N (.leaf true) t.fs=R
 apply j105 _ _ (RD nl ord R) (by simp [noRefL,noRef_agTm he]) (fun r h=>h.noRef)
 have hstr:strip (eBu nl ord N)=eBu nl ord N:=rfl
 rw [hstr,strip_agTm]
 have hfl:=ht.1
 simp [s105,eBu,v13T nl ord true ho h7 hn]
 let J:Nat→List D→Store→Prop:=fun q fr S=>∃ k acc m z0 z1 z2 b5 b18,fr=mkf 48 [(2,.bx 0 0),(4,.bx 2 0),(5,b5),(6,.bx 3 0),(15,eFcs e t.nl t.fs),(16,.i .i64 t.fs.length),(17,.i .i64 (k:Nat)),(18,b18)]∧k+q=t.fs.length∧tmL b ord N (.leaf true) t.fs=tmL b ord N acc (t.fs.drop k)∧Wf ord.length acc∧sget S 0=some (.box [eRows nl ord,.i .i64 N])∧sget S 2=some (.box [z0,z1,z2])∧sget S 3=some (.box (cT nl m ord acc))
 refine W_loop J ?_ t.fs.length _ _ ⟨0,.leaf true,true,_,_,_,_,_,rfl,by simp,by simp,trivial,rfl,rfl,rfl⟩
 intro q fr S hJ;obtain ⟨k,acc,m,z0,z1,z2,b5,b18,hfr,hk,hv,hw,hS0,hS1,hS2⟩:=hJ;rw [hfr]
 rw [hR] at hv
 rw [←wp_W,e105_0]
 simp [s105_0]
 have n0:=sget_lt hS0
 have n1:=sget_lt hS1
 have n2:=sget_lt hS2
 split
 ·rename_i h
  obtain ⟨f,hf⟩:=get_lt (l:=t.fs) (k:=k) (by omega)
  obtain ⟨r,c1,hr⟩:=v160 he ho h7 hn H f (ht.2 f (List.mem_of_getElem? hf))
  simp only [eBu] at c1
  rw [drop_get hf,tmL] at hv
  have m0:¬0=S.length:=by omega
  have m2:¬2=S.length:=by omega
  have m3:¬3=S.length:=by omega
  have m0':¬0=S.length+1:=by omega
  have m2':¬2=S.length+1:=by omega
  have m3':¬3=S.length+1:=by omega
  have q0:∀ e1 e2:Ent,sget (e1::e2::S) 0=some (.box [eRows nl ord,.i .i64 N]):=fun e1 e2=>sget_push (sget_push hS0)
  have q2:∀ e1 e2:Ent,sget (e1::e2::S) 2=some (.box [z0,z1,z2]):=fun e1 e2=>sget_push (sget_push hS1)
  have q3:∀ e1 e2:Ent,sget (e1::e2::S) 3=some (.box (cT nl m ord acc)):=fun e1 e2=>sget_push (sget_push hS2)
  have qt:∀ e1 e2:Ent,sget (e1::e2::S) (S.length+1)=some e1:=fun e1 e2=>sget_top e1 (e2::S)
  cases hat:atT b ord N f with
  | none=>
   rw [hat] at hr hv
   simp only [RD] at hr
   subst hr
   simp only at hv
   subst hv
   simp [-sget_cons,-sset_cons,iaD_eFcs e _ hf,m0,q0,q2,q3,qt,sget_push hS0,c1,bldV_z]
   rw [sget_sset _ (sget_lt (q2 _ _))]
   simp [agg_zB]
  | some x=>
   rw [hat] at hr hv
   obtain ⟨wx,mx,rfl⟩:=hr
   obtain ⟨m4,_,e21⟩:=andT nl m nl mx ord acc x ho h7 hw wx hn hn
   have wo:=opT_wf ord.length false acc x
   have hsz:=small h7 wo
   have e106:=v106 nl m4 ord N (opT ord.length false acc x) (by omega)
   simp only [eBu] at e106
   simp only at hv
   cases hl:limT N (opT ord.length false acc x) with
   | none=>
    rw [hl] at e106 hv
    simp only at hv e106
    subst hv
    simp [-sget_cons,-sset_cons,iaD_eFcs e _ hf,m0,q0,q2,q3,qt,sget_push hS0,c1,bldV_z,e21,e106]
    have y2:∀ (e1 e2 e3:Ent),sget (sset (e1::e2::S) 3 e3) 2=some (.box [z0,z1,z2]):=fun e1 e2 e3=>by rw [sget_sset_ne _ (by omega)];exact q2 _ _
    simp [-sget_cons,-sset_cons,y2]
    rw [sget_sset _ (sget_lt (y2 _ _ _))]
    simp [agg_zB]
   | some u=>
    have hu:=limT_le hl
    subst hu
    rw [hl] at e106 hv
    simp only at hv e106
    simp [-sget_cons,-sset_cons,iaD_eFcs e _ hf,m0,q0,q2,q3,qt,sget_push hS0,c1,bldV_z,e21,e106]
    rw [wrapL (k:=k) h hfl]
    exact ⟨q-1,by omega,⟨k+1,_,m4,z0,z1,z2,_,_,rfl,by omega,by rw [hR];exact hv,wo,by rw [sget_sset_ne _ (by omega)];exact q0 _ _,by rw [sget_sset_ne _ (by omega)];exact q2 _ _,sget_sset _ (sget_lt (q3 _ _))⟩⟩
 ·rename_i h
  rw [List.drop_eq_nil_of_le (show t.fs.length≤k by omega),tmL] at hv
  subst hv
  simp [e105_r0,s105_r0,hS1,hS2]
  rw [sget_sset _ n1]
  exact RD_mk hw
set_option maxHeartbeats 1000000 in
theorem v66s {α:Type} {e:α→D} {g:α→Prop} {b:α→Option T} (he:GE e) (ho:OrdOk ord) (h7:ord.length≤7) (hn:nlOk nl ord) (H:BuOk nl ord N e g b):BuOk nl ord N (eAn e) (gdAn ord g) (buAn b ord N):=by
 intro x hx
 generalize hR:buAn b ord N x=R
 apply j66 _ _ (RD nl ord R) (by simp [noRefL,noRef_eAn he]) (fun r h=>h.noRef)
 have hstr:strip (eBu nl ord N)=eBu nl ord N:=rfl
 rw [hstr,strip_eAn]
 have hxl:=hx.1
 simp [s66,eBu,v13T nl ord false ho h7 hn]
 let J:Nat→List D→Store→Prop:=fun q fr S=>∃ k acc m z0 z1 z2 b5 b17,fr=mkf 46 [(2,.bx 0 0),(4,.bx 1 0),(5,b5),(6,.bx 2 0),(14,eAn e x),(15,.i .i64 x.ts.length),(16,.i .i64 (k:Nat)),(17,b17)]∧k+q=x.ts.length∧buAn b ord N x=anL b ord N acc (x.ts.drop k)∧Wf ord.length acc∧sget S 0=some (.box [eRows nl ord,.i .i64 N])∧sget S 1=some (.box [z0,z1,z2])∧sget S 2=some (.box (cT nl m ord acc))
 refine W_loop J ?_ x.ts.length _ _ ⟨0,.leaf false,true,_,_,_,_,_,rfl,by simp,by simp [buAn],trivial,rfl,rfl,rfl⟩
 intro q fr S hJ;obtain ⟨k,acc,m,z0,z1,z2,b5,b17,hfr,hk,hv,hw,hS0,hS1,hS2⟩:=hJ;rw [hfr]
 rw [hR] at hv
 rw [←wp_W,e66_0]
 simp [s66_0]
 have n0:=sget_lt hS0
 have n1:=sget_lt hS1
 have n2:=sget_lt hS2
 split
 ·rename_i h
  obtain ⟨t,ht⟩:=get_lt (l:=x.ts) (k:=k) (by omega)
  obtain ⟨r,c1,hr⟩:=v105 he ho h7 hn H t (hx.2 t (List.mem_of_getElem? ht))
  simp only [eBu] at c1
  rw [drop_get ht,anL] at hv
  have q0:∀ e1 e2:Ent,sget (e1::e2::S) 0=some (.box [eRows nl ord,.i .i64 N]):=fun e1 e2=>sget_push (sget_push hS0)
  have q2:∀ e1 e2:Ent,sget (e1::e2::S) 1=some (.box [z0,z1,z2]):=fun e1 e2=>sget_push (sget_push hS1)
  have q3:∀ e1 e2:Ent,sget (e1::e2::S) 2=some (.box (cT nl m ord acc)):=fun e1 e2=>sget_push (sget_push hS2)
  have qt:∀ e1 e2:Ent,sget (e1::e2::S) (S.length+1)=some e1:=fun e1 e2=>sget_top e1 (e2::S)
  cases hat:tmL b ord N (.leaf true) t.fs with
  | none=>
   rw [hat] at hr hv
   simp only [RD] at hr
   subst hr
   simp only at hv
   subst hv
   simp [-sget_cons,-sset_cons,iaD_eAn e _ ht,q0,q2,q3,qt,sget_push hS0,c1,bldV_z]
   rw [sget_sset _ (sget_lt (q2 _ _))]
   simp [agg_zB]
  | some y=>
   rw [hat] at hr hv
   obtain ⟨wx,mx,rfl⟩:=hr
   obtain ⟨m4,_,e22⟩:=orT nl m nl mx ord acc y ho h7 hw wx hn hn
   have wo:=opT_wf ord.length true acc y
   have hsz:=small h7 wo
   have e106:=v106 nl m4 ord N (opT ord.length true acc y) (by omega)
   simp only [eBu] at e106
   simp only at hv
   cases hl:limT N (opT ord.length true acc y) with
   | none=>
    rw [hl] at e106 hv
    simp only at hv e106
    subst hv
    simp [-sget_cons,-sset_cons,iaD_eAn e _ ht,q0,q2,q3,qt,sget_push hS0,c1,bldV_z,e22,e106]
    have y2:∀ (e1 e2 e3:Ent),sget (sset (e1::e2::S) 2 e3) 1=some (.box [z0,z1,z2]):=fun e1 e2 e3=>by rw [sget_sset_ne _ (by omega)];exact q2 _ _
    simp [-sget_cons,-sset_cons,y2]
    rw [sget_sset _ (sget_lt (y2 _ _ _))]
    simp [agg_zB]
   | some u=>
    have hu:=limT_le hl
    subst hu
    rw [hl] at e106 hv
    simp only at hv e106
    simp [-sget_cons,-sset_cons,iaD_eAn e _ ht,q0,q2,q3,qt,sget_push hS0,c1,bldV_z,e22,e106]
    rw [wrapL (k:=k) h hxl]
    exact ⟨q-1,by omega,⟨k+1,_,m4,z0,z1,z2,_,_,rfl,by omega,by rw [hR];exact hv,wo,by rw [sget_sset_ne _ (by omega)];exact q0 _ _,by rw [sget_sset_ne _ (by omega)];exact q2 _ _,sget_sset _ (sget_lt (q3 _ _))⟩⟩
 ·rename_i h
  rw [List.drop_eq_nil_of_le (show x.ts.length≤k by omega),anL] at hv
  subst hv
  simp [e66_r0,s66_r0,hS1,hS2]
  rw [sget_sset _ n1]
  exact RD_mk hw
theorem v66 (ho:OrdOk ord) (h7:ord.length≤7) (hn:nlOk nl ord):∀ n,BuOk nl ord N (eAnn n) (gdAnn ord n) (buAnn ord N n)
 | 0=>fun x=>nomatch x
 | n+1=>v66s (GE_eAnn n) ho h7 hn (v66 ho h7 hn n)
end Go.Proofs.YtjlmeikcfdanmaaGreatDoor.DE.V

namespace Go.Proofs.YtjlmeikcfdanmaaGreatDoor.DE.V
open Go BT
set_option linter.unusedSimpArgs false
set_option linter.unusedVariables false
section
variable {α:Type} {P:Prm α} {ord:List Row} {ok g:α→Prop} {T:α→Bool} {v:α→List Row}
theorem vFs_all:∀ {l:List (Fc α)} {p:Option (Fc α)},vFs P p l=true→∀ f,f∈l→vAt P f=true
 | [],_,_,f,hf=>by cases hf
 | x::l,p,h,f,hf=>by
  rw [vFs_cons] at h
  simp only [Bool.and_eq_true] at h
  rcases List.mem_cons.1 hf with e | e
  ·subst e;exact h.1.2
  ·exact vFs_all h.2 f e
theorem vTs_all:∀ {l:List (Tm α)} {p:Option (Tm α)},vTs P p l=true→∀ t,t∈l→vFs P none t.fs=true
 | [],_,_,f,hf=>by cases hf
 | x::l,p,h,f,hf=>by
  rw [vTs_cons] at h
  simp only [Bool.and_eq_true] at h
  rcases List.mem_cons.1 hf with e | e
  ·subst e;exact h.1.2
  ·exact vTs_all h.2 f e
theorem gd_fc (hV:∀ a,ok a→P.V a=true→T a=false→(∀ r,r∈v a→r∈ord)→g a) {f:Fc α} (hof:OkFc ok f) (h:vAt P f=true) (ht:teFc T f=false) (hv:∀ r,r∈vaFc v f→r∈ord):gdFc ord g f:=by
 simp only [teFc,Bool.or_eq_false_iff,decide_eq_false_iff_not] at ht
 obtain ⟨k4,hT⟩:=ht
 unfold vAt at h
 split at h
 ·cases h
 ·split at h
  ·cases h
  ·split at h
   ·cases h
   ·rename_i hA
    have hargs:∀ a,a∈f.args→g a:=by
     intro a ha
     have hA:f.args.any (fun a=>!P.V a || P.em a)=false:=by simpa using hA
     have h1:=List.any_eq_false.1 hA a ha
     have h2:=List.any_eq_false.1 hT a ha
     simp only [Bool.or_eq_true,Bool.not_eq_true',not_or,Bool.not_eq_true] at h1
     refine hV a (hof.args a ha) (by simpa using h1.1) (by simpa using h2) fun r hr=>hv r ?_
     simp only [vaFc,List.mem_append,List.mem_flatMap]
     exact .inr (.inl ⟨a,ha,hr⟩)
    split at h
    ·rename_i k0
     exact .inl ⟨k0,hv _ (by simp [vaFc,k0])⟩
    ·rename_i k0
     right
     refine ⟨k0,?_⟩
     split at h
     ·match hl:f.args with
      | []=>rw [hl] at h;simp [mon2] at h
      | [a]=>rw [hl] at h;simp [mon2] at h
      | a::b::l=>exact ⟨a,b::l,rfl,hargs a (by simp [hl]),.inr (.inr ⟨b,l,rfl,hargs b (by simp [hl])⟩)⟩
     ·split at h
      ·rename_i k2
       match hl:f.args with
       | []=>rw [hl] at h;simp [del1] at h
       | a::l=>exact ⟨a,l,rfl,hargs a (by simp [hl]),.inl k2⟩
      ·split at h
       ·rename_i k3
        match hl:f.args with
        | []=>rw [hl] at h;simp [abs1] at h
        | a::l=>exact ⟨a,l,rfl,hargs a (by simp [hl]),.inr (.inl k3)⟩
       ·first
        | (split at h <;> first | (rename_i k4';exact absurd k4' k4) | cases h)
        | cases h
theorem gd_an {e:α→D} (hV:∀ a,ok a→P.V a=true→T a=false→(∀ r,r∈v a→r∈ord)→g a) {x:An α} (hx:OkAn ok x) (h:vAn P e x=true) (ht:teAn T x=false) (hv:∀ r,r∈vaAn v x→r∈ord):gdAn ord g x:=by
 simp only [vAn,Bool.and_eq_true] at h
 refine ⟨hx.len,fun t htm=>⟨(hx.ts t htm).len,fun f hf=>?_⟩⟩
 have h1:=vTs_all h.2 t htm
 have h2:=List.any_eq_false.1 ht t htm
 have h3:teTm T t=false:=by simpa using h2
 have h4:t.fs.any (teFc T)=false:=h3
 have h5:=List.any_eq_false.1 h4 f hf
 refine gd_fc hV ((hx.ts t htm).fs f hf) (vFs_all h1 f hf) (by simpa using h5) fun r hr=>hv r ?_
 simp only [vaAn,vaTm,List.mem_flatMap]
 exact ⟨t,htm,f,hf,hr⟩
end
theorem gd_ann {ord:List Row}:∀ n (x:Ann n),OkAnn n x→validAnn n x=true→teAnn n x=false→(∀ r,r∈vaAnn n x→r∈ord)→gdAnn ord n x
 | 0,x=>nomatch x
 | n+1,x=>fun hx h ht hv=>gd_an (P:=prm n) (gd_ann n) hx h ht hv
section
variable {α:Type} {P:Prm α} {sm:α→Prop}
theorem vlOk_len {v:Vl} (h:vlOk v=true):v.text.length≤1048576:=by
 unfold vlOk at h
 split at h
 ·have:v.text=[]:=by simpa using h
  simp [this]
 ·split at h
  ·have:=of_decide_eq_true h;omega
  ·split at h
   ·simp at h;simp [h.2]
   ·cases h
theorem vlZ_len {v:Vl} (h:vlZ v=true):v.text.length≤1048576:=by
 simp [vlZ] at h;simp [h.2.2]
theorem sm_fc (hV:∀ a,P.V a=true→sm a) {f:Fc α} (h:vAt P f=true) (hi:f.items.length≤1024):SmFc sm f:=by
 unfold vAt at h
 split at h
 ·cases h
 ·rename_i hp
  split at h
  ·cases h
  ·split at h
   ·cases h
   ·rename_i hA
    have hA:f.args.any (fun a=>!P.V a || P.em a)=false:=by simpa using hA
    have hargs:∀ a,a∈f.args→sm a:=by
     intro a ha
     have h1:=List.any_eq_false.1 hA a ha
     simp only [Bool.or_eq_true,Bool.not_eq_true',not_or,Bool.not_eq_true] at h1
     exact hV a (by simpa using h1.1)
    have rest:f.kind≠4→f.args.length≤1048576→SmFc sm f:=by
     intro k4 hl
     have hp0:plain0 f=true:=by
      cases hq:plain0 f with
      | true=>rfl
      | false=>exact absurd ⟨k4,hq⟩ hp
     simp only [plain0,Bool.and_eq_true,decide_eq_true_eq] at hp0
     have hit:f.items=[]:=List.length_eq_zero_iff.1 hp0.1.1.2
     exact ⟨hl,hargs,by simp [hit],fun p hp=>(by rw [hit] at hp;cases hp),vlZ_len hp0.2⟩
    split at h
    ·rename_i k0
     simp at h
     exact rest (by omega) (by simp [h.2])
    ·split at h
     ·rename_i k1
      refine rest (by omega) ?_
      match hl:f.args with
      | []=>simp
      | [a]=>simp
      | [a,b]=>simp
      | a::b::c::l=>rw [hl] at h;simp [mon2] at h
     ·split at h
      ·rename_i k2
       refine rest (by omega) ?_
       match hl:f.args with
       | []=>simp
       | [a]=>simp
       | a::b::l=>rw [hl] at h;simp [del1] at h
      ·split at h
       ·rename_i k3
        refine rest (by omega) ?_
        match hl:f.args with
        | []=>simp
        | [a]=>simp
        | a::b::l=>rw [hl] at h;simp [abs1] at h
       ·split at h
        ·simp only [Bool.and_eq_true,decide_eq_true_eq,Bool.not_eq_true',fitg] at h
         obtain ⟨⟨⟨⟨h1,_⟩,h2⟩,_⟩,⟨⟨_,h3⟩,_⟩,h4⟩:=h
         refine ⟨by omega,hargs,by omega,fun p hp=>⟨?_,?_⟩,vlOk_len h3⟩
         ·have:=List.any_eq_false.1 h4 p hp
          simp only [badV,Bool.or_eq_true,not_or,Bool.not_eq_true,Bool.not_eq_true'] at this
          exact vlOk_len (by simpa using this.1.1)
         ·have:=List.any_eq_false.1 h2 p hp
          simp only [Bool.or_eq_true,not_or,Bool.not_eq_true,Bool.not_eq_true'] at this
          exact hV p.2 (by simpa using this.1)
        ·cases h
theorem sm_an {e:α→D} (hV:∀ a,P.V a=true→sm a) {x:An α} (h:vAn P e x=true):SmAn sm x:=by
 simp only [vAn,fitAn,Bool.and_eq_true,decide_eq_true_eq] at h
 obtain ⟨⟨⟨⟨h1,_⟩,_⟩,h2⟩,h3⟩:=h
 refine ⟨by omega,fun t ht=>?_⟩
 have h4:=List.all_eq_true.1 h2 t ht
 simp only [fiTm,Bool.and_eq_true,decide_eq_true_eq] at h4
 refine ⟨by omega,fun f hf=>sm_fc hV (vFs_all (vTs_all h3 t ht) f hf) ?_⟩
 have h5:=List.all_eq_true.1 h4.2 f hf
 simp only [fiFc,Bool.and_eq_true,decide_eq_true_eq] at h5
 exact h5.2
end
theorem sm_ann:∀ n (x:Ann n),validAnn n x=true→SmAnn n x
 | 0,x=>nomatch x
 | n+1,x=>fun h=>sm_an (P:=prm n) (sm_ann n) h
theorem smS_valid {x:SA} (h:validS x=true):smS x:=sm_ann x.1 x.2 h
noncomputable def buS (ord:List Row) (N:Int) (x:SA):Option T:=buAnn ord N x.1 x.2
def teS (x:SA):Bool:=teAnn x.1 x.2
def vaS (x:SA):List Row:=vaAnn x.1 x.2
def BD (nl:Bool) (ord:List Row) (N:Int) (x:SA) (r:D):Prop:=
 (¬(OrdOk ord∧validS x=true∧0≤N)∧r = .tup [zB,.i .i64 1]) ∨
 ((OrdOk ord∧validS x=true∧0≤N)∧teS x=true∧r = .tup [zB,.i .i64 13]) ∨
 ((OrdOk ord∧validS x=true∧0≤N)∧teS x=false∧(∃ w,w∈vaS x∧w ∉ ord)∧r = .tup [zB,.i .i64 4]) ∨
 ((OrdOk ord∧validS x=true∧0≤N)∧teS x=false∧(∀ w,w∈vaS x→w∈ord)∧RD nl ord (buS ord N x) r)
theorem BD.noRef {nl:Bool} {ord:List Row} {N:Int} {x:SA} {r:D} (h:BD nl ord N x r):noRef r=true:=by
 rcases h with ⟨_,rfl⟩ | ⟨_,_,rfl⟩ | ⟨_,_,_,rfl⟩ | ⟨_,_,_,h⟩
 ·simp [DE.noRef,noRefL]
 ·simp [DE.noRef,noRefL]
 ·simp [DE.noRef,noRefL]
 ·exact h.noRef
theorem v31 (x:SA) (hx:okS x) (hw:smS x→wS x≤40) (nl:Bool) (ord:List Row) (hn:nlOk nl ord) (h7:ord.length≤7) (N:Int) :
  ∃ r,isoCall (call dp) 31 [eRows nl ord,eS x,.i .i64 N]=some r∧BD nl ord N x r:=by
 have e48:=v48 nl ord (by unfold Bd;omega)
 have e60:=v60S x hx
 have e61:isoCall (call dp) 61 [eS x]=some (.b (teS x)):=v61 x.1 x.2 hx
 apply j31 _ _ _ (BD nl ord N x) (by simp [noRefL,GE_eS.noRef,GE_eS.strip]) (fun r h=>h.noRef)
 have hstr:strip (eS x)=eS x:=GE_eS.strip x
 rw [hstr]
 simp only [strip_eRows,strip_i]
 by_cases ho:OrdOk ord
 case neg=>
  have hno:¬(OrdOk ord∧ord.length≤4096):=fun h=>ho h.1
  simp only [hno,decide_false] at e48
  simp [s31,e48,bldV_z,agg_zB]
  exact .inl ⟨fun h=>ho h.1,rfl⟩
 have hyes:OrdOk ord∧ord.length≤4096:=⟨ho,by omega⟩
 simp only [hyes,and_self,decide_true] at e48
 by_cases hval:validS x=true
 case neg=>
  have hval':validS x=false:=by simpa using hval
  rw [hval'] at e60
  simp [s31,e48,e60,bldV_z,agg_zB]
  exact .inl ⟨fun h=>hval h.2.1,rfl⟩
 rw [hval] at e60
 obtain ⟨s,nl',e63,hs,hsl⟩:=v63 x hx (hw (smS_valid hval))
 by_cases hN:N<0
 ·simp [s31,e48,e60,hN,bldV_z,agg_zB]
  exact .inl ⟨fun h=>by omega,rfl⟩
 have hN':0≤N:=by omega
 cases hte:teS x with
 | true=>
  rw [hte] at e61
  simp [s31,e48,e60,hN,e61,bldV_z,agg_zB]
  exact .inr (.inl ⟨⟨ho,hval,hN'⟩,hte,rfl⟩)
 | false=>
  rw [hte] at e61
  obtain ⟨S',c62,hp⟩:=v62 nl' s (by unfold Bd;omega) (ib:=0) (nl':=nl) (ord:=ord) (S0:=[Ent.box [.sl 2 true [] .ro,.sl 3 true [] .ro,.i .i64 0],Ent.box [eRows nl ord]]) (by unfold Bd;omega) rfl
  have p0:=hp 0 _ (show sget [Ent.box [.sl 2 true [] .ro,.sl 3 true [] .ro,.i .i64 0],Ent.box [eRows nl ord]] 0=some (.box [eRows nl ord]) from rfl)
  have p1:=hp 1 _ (show sget [Ent.box [.sl 2 true [] .ro,.sl 3 true [] .ro,.i .i64 0],Ent.box [eRows nl ord]] 1=some (.box [.sl 2 true [] .ro,.sl 3 true [] .ro,.i .i64 0]) from rfl)
  cases hany:s.any fun r=>!decide (r∈ord) with
  | true=>
   rw [hany] at c62
   obtain ⟨r,hr1,hr2⟩:=List.any_eq_true.1 hany
   simp [s31,e48,e60,hN,e61,e63,c62,bldV_z,p1]
   rw [sget_sset _ (sget_lt p1)]
   simp [agg_zB]
   exact .inr (.inr (.inl ⟨⟨ho,hval,hN'⟩,hte,⟨r,(hs r).1 hr1,by simpa using hr2⟩,rfl⟩))
  | false=>
   rw [hany] at c62
   have hall:∀ w,w∈vaS x→w∈ord:=by
    intro w hw'
    have:=List.any_eq_false.1 hany w ((hs w).2 hw')
    simpa using this
   obtain ⟨r,c66,hr⟩:=v66 (N:=N) ho h7 hn x.1 x.2 (gd_ann x.1 x.2 hx hval hte hall)
   have c66:isoCall (call dp) 66 [.agg [eRows nl ord,.i .i64 N],eS x]=some r:=c66
   have hbl:bldV [.sl 2 true [] .ro,.i .i64 0] [(0,1,false,eRows nl ord),(1,1,false,.i .i64 N)]=some [eRows nl ord,.i .i64 N]:=by simp [bldV]
   have fin:∀ d,RD nl ord (buS ord N x) d→BD nl ord N x d:=fun d h=>.inr (.inr (.inr ⟨⟨ho,hval,hN'⟩,hte,hall,h⟩))
   simp [-OX_b,s31,e48,e60,hN,e61,e63,c62,p0,p1,hbl,c66]
   have hbu:buAnn ord N x.1 x.2=buS ord N x:=rfl
   rw [hbu] at hr
   cases hb:buS ord N x with
   | none=>
    rw [hb] at hr fin
    simp only [RD] at hr
    subst hr
    simp [p1]
    rw [sget_sset _ (sget_lt p1)]
    simp [agg_zB]
    exact fin _ (by simp)
   | some t=>
    rw [hb] at hr fin
    obtain ⟨wt,m,rfl⟩:=hr
    simp [p1]
    rw [sget_sset _ (sget_lt p1)]
    simp
    exact fin _ (RD_mk wt)
end Go.Proofs.YtjlmeikcfdanmaaGreatDoor.DE.V

namespace Go.Proofs.YtjlmeikcfdanmaaGreatDoor.DE.V
open Go BT
set_option linter.unusedSimpArgs false
set_option linter.unusedVariables false
section
variable {α:Type} {e:α→D} {ok:α→Prop} {P:Prm α}
theorem vAt_kind {f:Fc α} (h:vAt P f=true):f.kind=0∨f.kind=1∨f.kind=2∨f.kind=3∨f.kind=4:=by
 by_cases k0:f.kind=0
 ·exact .inl k0
 ·by_cases k1:f.kind=1
  ·exact .inr (.inl k1)
  ·by_cases k2:f.kind=2
   ·exact .inr (.inr (.inl k2))
   ·by_cases k3:f.kind=3
    ·exact .inr (.inr (.inr (.inl k3)))
    ·by_cases k4:f.kind=4
     ·exact .inr (.inr (.inr (.inr k4)))
     ·exfalso
      unfold vAt at h
      simp [k0,k1,k2,k3,k4] at h
theorem okExp_bad {f:Fc α} (h1:1<f.exp) (h3:3≤f.kind):(okExp f&&vAt P f)=false:=by
 cases hv:vAt P f
 ·simp
 ·have hk:=vAt_kind hv
  have:idem f=true:=by unfold idem;simp;omega
  have h1':decide (f.exp=1)=false:=by simp;omega
  simp [okExp,this,h1']
theorem okExp_good {f:Fc α} (h0:¬f.exp<1) (h:¬(1<f.exp∧3≤f.kind)):okExp f=true:=by
 have d0:decide (1≤f.exp)=true:=by simp;omega
 unfold okExp idem
 rw [d0]
 by_cases hk:f.kind=3∨f.kind=4
 ·have:f.exp=1:=by omega
  simp [this]
 ·simp [hk]
set_option maxHeartbeats 1000000 in
theorem v67f (H:PrmOkR e ok P) (t:Tm α) (hot:OkTm ok t) (hfi:fiTm t=true) (a0 b2 a3 b13 b48:D) (id:Nat) (S0:Store) (hid:sget S0 id=some (.box (eTm e t))) (Q:Ex→List D→Store→Prop)
  (hF:vFs P none t.fs=false→∀ S,Q .ret (mkf 93 [(0,.top),(2,.b false),(3,.top),(4,.top),(5,.top),(13,b13),(48,.top)]) S)
  (hT:vFs P none t.fs=true→∀ S b5 b48,Q (.exit 2) (mkf 93 [(0,a0),(2,b2),(3,a3),(4,.bx id 0),(5,b5),(13,b13),(48,b48)]) S) :
  W (call dp) (.loop [] c67_0) (mkf 93 [(0,a0),(2,b2),(3,a3),(4,.bx id 0),(5,.i .i64 0),(13,b13),(48,b48)]) S0 Q:=by
 have he:=H.he
 have hfl:=hot.len
 simp only [fiTm,Bool.and_eq_true,decide_eq_true_eq] at hfi
 let J2:Nat→List D→Store→Prop:=fun q fr S=>∃ i b48,fr=mkf 93 [(0,a0),(2,b2),(3,a3),(4,.bx id 0),(5,.i .i64 (i:Nat)),(13,b13),(48,b48)]∧i+q=t.fs.length∧vFs P none t.fs=vFs P (pre t.fs i) (t.fs.drop i)∧sget S id=some (.box (eTm e t))
 refine W_loop J2 ?_ t.fs.length _ _ ⟨0,_,rfl,by simp,by simp [pre_zero],hid⟩
 intro q2 fr S hJ;obtain ⟨i,b48,hfr,hi,hv2,hS⟩:=hJ;rw [hfr]
 rw [←wp_W,e67_0]
 simp [s67_0,hS]
 split
 ·rename_i h2
  obtain ⟨f,hf⟩:=get_lt (l:=t.fs) (k:=i) (by omega)
  have hfm:=List.mem_of_getElem? hf
  have hof:=hot.fs f hfm
  have hneid:¬id=S.length:=by have:=sget_lt hS;omega
  have hfc:=List.all_eq_true.1 hfi.2 f hfm
  simp only [fiFc,Bool.and_eq_true,decide_eq_true_eq] at hfc
  rw [drop_get hf,vFs_cons] at hv2
  have h109:=v109 H f hof hfc.2
  have w1:IntKind.i64.wrap ((i:Int)+1)=((i+1:Nat):Int):=wrapL (k:=i) h2 hot.len
  have bad:vFs P none t.fs=false→Q .ret (mkf 93 [(0,.top),(2,.b false),(3,.top),(4,.top),(5,.top),(13,b13),(48,.top)]) (.box (eFc e f)::S):=fun h=>hF h _
  have good:okExp f=true→okPrev (cmpAt P.c) (pre t.fs i) f=true→vAt P f=true→∃ m',m'<q2∧J2 m' (mkf 93 [(0,a0),(2,b2),(3,a3),(4,.bx id 0),(5,.i .i64 ((i+1:Nat):Int)),(13,b13),(48,.top)]) (.box (eFc e f)::S):=by
   intro g1 g2 g3
   refine ⟨q2-1,by omega,⟨i+1,_,rfl,by omega,?_,sget_push hS⟩⟩
   rw [hv2,g1,g2,g3,pre_succ hf];rfl
  simp only [w1]
  by_cases a1:f.exp<1
  ·have:okExp f=false:=by
    have:decide (1≤f.exp)=false:=by simp;omega
    unfold okExp;rw [this];rfl
   simp only [this,Bool.false_and] at hv2
   simp [iaD_eFcs e _ hf,a1]
   exact bad hv2
  by_cases a2:1<f.exp∧3≤f.kind
  ·have hb:=okExp_bad (P:=P) a2.1 a2.2
   have:(okExp f&&okPrev (cmpAt P.c) (pre t.fs i) f&&vAt P f)=false:=by
    cases q1:okExp f <;> cases q2:vAt P f <;> simp_all
   rw [this,Bool.false_and] at hv2
   simp [iaD_eFcs e _ hf,a1,a2.1,a2.2]
   exact bad hv2
  have hE:=okExp_good a1 a2
  rw [hE,Bool.true_and] at hv2
  have a4:¬1<f.exp∨(1<f.exp∧¬3≤f.kind):=by
   by_cases q1:1<f.exp
   ·exact .inr ⟨q1,fun q2=>a2 ⟨q1,q2⟩⟩
   ·exact .inl q1
  have pass:∀ (X:Bool→Prop),X false→True:=fun _ _=>trivial
  cases hVV:vAt P f with
  | false=>
   rw [hVV,Bool.and_false,Bool.false_and] at hv2
   rw [hVV] at h109
   rcases a4 with a4 | ⟨a4,a5⟩
   ·simp [iaD_eFcs e _ hf,a1,a4,h109]
    exact bad hv2
   ·simp [iaD_eFcs e _ hf,a1,a4,a5,h109]
    exact bad hv2
  | true=>
   rw [hVV,Bool.and_true] at hv2
   rw [hVV] at h109
   rcases Nat.eq_zero_or_pos i with i0 | i0
   ·have hp0:okPrev (cmpAt P.c) (pre t.fs i) f=true:=by rw [i0];rfl
    have i0':¬0<i:=by omega
    rcases a4 with a4 | ⟨a4,a5⟩
    ·simp [iaD_eFcs e _ hf,a1,a4,h109,i0']
     exact good hE hp0 hVV
    ·simp [iaD_eFcs e _ hf,a1,a4,a5,h109,i0']
     exact good hE hp0 hVV
   ·obtain ⟨k',hk'⟩:∃ k',i=k'+1:=⟨i-1,by omega⟩
    obtain ⟨g,hg⟩:=get_lt (l:=t.fs) (k:=k') (by omega)
    have hc:=v110 he H.c g f (hot.fs g (List.mem_of_getElem? hg))
    have hpp:okPrev (cmpAt P.c) (pre t.fs i) f=decide (cmpAt P.c g f<0):=by rw [hk'];exact okPrevS _ hg f
    rw [hpp] at hv2 good
    have w2:IntKind.i64.wrap ((i:Int)-1)=(k':Int):=by unfold Len63 at hfl;rw [wrap64 ⟨by omega,by omega⟩];omega
    have i0':0<i:=i0
    by_cases hcl:cmpAt P.c g f<0
    ·have hcl':¬0≤cmpAt P.c g f:=by omega
     rcases a4 with a4 | ⟨a4,a5⟩
     ·simp [iaD_eFcs e _ hf,iaD_eFcs e _ hg,a1,a4,h109,i0',hneid,hS,w2,hc,hcl']
      exact good hE (by simpa using hcl) hVV
     ·simp [iaD_eFcs e _ hf,iaD_eFcs e _ hg,a1,a4,a5,h109,i0',hneid,hS,w2,hc,hcl']
      exact good hE (by simpa using hcl) hVV
    ·have hcl':0≤cmpAt P.c g f:=by omega
     simp only [hcl,decide_false,Bool.false_and] at hv2
     rcases a4 with a4 | ⟨a4,a5⟩
     ·simp [iaD_eFcs e _ hf,iaD_eFcs e _ hg,a1,a4,h109,i0',hneid,hS,w2,hc,hcl']
      exact bad hv2
     ·simp [iaD_eFcs e _ hf,iaD_eFcs e _ hg,a1,a4,a5,h109,i0',hneid,hS,w2,hc,hcl']
      exact bad hv2
 ·rename_i h2
  rw [List.drop_eq_nil_of_le (show t.fs.length≤i by omega),vFs_nil] at hv2
  exact hT hv2 _ _ _
noncomputable def vAnR (P:Prm α) (e:α→D) (x:An α):Bool:=fitAnR e x&&vTs P none x.ts
set_option maxHeartbeats 1000000 in
theorem v67s (
       H:PrmOkR e ok P) (hs:EndI 162 (eAn e) (OkAn ok)) (hd:EndI 161 (eAn e) (OkAn ok)) (x:An α) (hx:OkAn ok x):isoCall (call dp) 67 [eAn e x]=some (.b (vAnR P e x)):=by
 have he:=H.he
 have h107:=v107 he hs hd x hx
 have hlen:=hx.len
 apply i67 _ _ (by simp [noRefL,noRef_eAn he]) rfl
 unfold vAnR
 simp [-OX_b,s67,h107]
 cases hfit:fitAnR e x
 ·simp
 ·have hall:∀ t,t∈x.ts→fiTm t=true:=by
   simp only [fitAnR,Bool.and_eq_true] at hfit
   exact List.all_eq_true.1 hfit.2
  simp
  generalize hR:vTs P none x.ts=R
  let J:Nat→List D→Store→Prop:=fun q fr S=>∃ k b2 b4 b5 b13 b48,fr=mkf 93 [(0,eAn e x),(2,b2),(3,.i .i64 (k:Nat)),(4,b4),(5,b5),(13,b13),(48,b48)]∧k+q=x.ts.length∧R=vTs P (pre x.ts k) (x.ts.drop k)
  refine W_loop J ?_ x.ts.length _ _ ⟨0,_,_,_,_,_,rfl,by simp,by simp [pre_zero,hR]⟩
  intro q fr S hJ;obtain ⟨k,b2,b4,b5,b13,b48,hfr,hk,hv⟩:=hJ;rw [hfr]
  rw [←wp_W,e67_1]
  simp [s67_1]
  split
  ·rename_i h
   obtain ⟨t,ht⟩:=get_lt (l:=x.ts) (k:=k) (by omega)
   have htm:=List.mem_of_getElem? ht
   have hot:=hx.ts t htm
   rw [drop_get ht,vTs_cons] at hv
   have w1:IntKind.i64.wrap ((k:Int)+1)=((k+1:Nat):Int):=wrapL (k:=k) h hx.len
   have inner:decide (1≤t.c)=true→decide (t.c≤1152921504606846976)=true→okPrev (cmpTl P.c) (pre x.ts k) t=true→∀ b2 b48 S0 id,sget S0 id=some (.box (eTm e t)) →
     W (call dp) (.loop [] c67_0) (mkf 93 [(0,eAn e x),(2,b2),(3,.i .i64 (k:Nat)),(4,.bx id 0),(5,.i .i64 0),(13,.top),(48,b48)]) S0
      (Qblk 2 (Qblk 1 (QS (call dp) c67_r0 (Qseq (fun fr' S'=>∃ m',m'<q∧J m' fr' S') (Qblk 0 (QS (call dp) c67_r1 (FinK [.t 2] fun dd _=>stripT dd = .b R))))))):=by
    intro g1 g2 g3 b2 b48 S0 id hid
    rw [g1,g2,g3] at hv
    refine v67f H t hot (hall t htm) _ _ _ _ _ id S0 hid _ ?_ ?_
    ·intro hvf S
     rw [hvf] at hv
     simp [hv]
    ·intro hvf S b5 b48
     rw [hvf] at hv
     simp [e67_r0,s67_r0]
     rw [w1]
     exact ⟨q-1,by omega,⟨k+1,_,_,_,_,_,rfl,by omega,by rw [hv,pre_succ ht];rfl⟩⟩
   by_cases c1:t.c<1
   ·have:decide (1≤t.c)=false:=by simp;omega
    rw [this] at hv
    simp [iaD_eAn e _ ht,c1,hv]
   ·have c1':decide (1≤t.c)=true:=by simp;omega
    by_cases c2:1152921504606846976<t.c
    ·have:decide (t.c≤1152921504606846976)=false:=by simp;omega
     rw [this] at hv
     simp [iaD_eAn e _ ht,c1,c2,hv]
    ·have c2':decide (t.c≤1152921504606846976)=true:=by simp;omega
     rcases Nat.eq_zero_or_pos k with k0 | k0
     ·have hp0:okPrev (cmpTl P.c) (pre x.ts k) t=true:=by rw [k0];rfl
      have k0':¬0<k:=by omega
      simp [iaD_eAn e _ ht,c1,c2,k0']
      exact inner c1' c2' hp0 _ _ _ _ (by simp)
     ·obtain ⟨k',hk'⟩:∃ k',k=k'+1:=⟨k-1,by omega⟩
      obtain ⟨g,hg⟩:=get_lt (l:=x.ts) (k:=k') (by omega)
      have hog:=hx.ts g (List.mem_of_getElem? hg)
      have hc:isoCall (call dp) 108 [eFcs e g.nl g.fs,eFcs e t.nl t.fs]=some (.i .i64 (cmpTl P.c g t)):=v108 he H.c _ _ _ _ hog.len hog.fs
      have hpp:okPrev (cmpTl P.c) (pre x.ts k) t=decide (cmpTl P.c g t<0):=by rw [hk'];exact okPrevS _ hg t
      rw [hpp] at hv inner
      have w2:IntKind.i64.wrap ((k:Int)-1)=(k':Int):=by unfold Len63 at hlen;rw [wrap64 ⟨by omega,by omega⟩];omega
      by_cases hcl:cmpTl P.c g t<0
      ·have hcl':¬0≤cmpTl P.c g t:=by omega
       simp [iaD_eAn e _ ht,iaD_eAn e _ hg,c1,c2,k0,w2,hc,hcl']
       exact inner c1' c2' (by simpa using hcl) _ _ _ _ (by simp)
      ·have hcl':0≤cmpTl P.c g t:=by omega
       simp only [hcl,decide_false,Bool.and_false,Bool.false_and] at hv
       simp [iaD_eAn e _ ht,iaD_eAn e _ hg,c1,c2,k0,w2,hc,hcl',hv]
  ·rename_i h
   rw [List.drop_eq_nil_of_le (show x.ts.length≤k by omega),vTs_nil] at hv
   simp [e67_r1,s67_r1,hv]
theorem biU_isU {x:An α} (h:vAnR P e x=true):biU x=isU x:=by
 simp only [vAnR,Bool.and_eq_true] at h
 unfold biU isU
 match hx:x.ts with
 | []=>rfl
 | [t]=>
  have h1:=vTs_all h.2 t (by rw [hx];simp)
  simp only
  congr 1
  match hf:t.fs with
  | []=>rfl
  | [f]=>
   have h2:=vAt_kind (vFs_all h1 f (by rw [hf];simp))
   simp only
   rw [Bool.and_comm]
   congr 1
   unfold idem
   rw [Bool.eq_iff_iff]
   simp
   omega
  | f::g::l=>rfl
 | t::u::l=>rfl
theorem isC_hasC (x:An α):isC x=(decide (x.ts.length=1)&&hasC x):=by
 unfold isC hasC
 match hx:x.ts with
 | []=>rfl
 | [t]=>simp
 | t::u::l=>simp
end
noncomputable def validAnnR:(n:Nat)→Ann n→Bool
 | 0,x=>nomatch x
 | n+1,x=>vAnR ⟨validAnnR n,emA n,isCA n,isUA n,hasCA n,cmpAnn n⟩ (eAnn n) x
noncomputable def prmR (n:Nat):Prm (Ann n):=⟨validAnnR n,emA n,isCA n,isUA n,hasCA n,cmpAnn n⟩
theorem prmOkR:∀ n,PrmOkR (eAnn n) (OkAnn n) (prmR n)
 | 0=>⟨GE_eAnn 0,(fun a=>nomatch a),(fun a=>nomatch a),(fun a=>nomatch a),(fun a=>nomatch a),(fun a=>nomatch a),(fun a=>nomatch a)⟩
 | n+1=>{
   he:=GE_eAnn (n+1)
   len:=fun a=>⟨a.ts.length,lenD_eAn (eAnn n) a,rfl,isC_hasC a⟩
   V:=fun a h=>v67s (prmOkR n) (v162t (n+1)) (v161t (n+1)) a h
   isU:=fun a h hv=>(v167 (GE_eAnn n) a).trans (congrArg (fun b=>some (D.b b)) (biU_isU (P:=prmR n) hv))
   hasC:=fun a h=>v166 (GE_eAnn n) a (OkAn.len h)
   c:=v171 (n+1)
   anti:=anti_Ann (n+1) }
noncomputable def validSR (p:SA):Bool:=validAnnR p.1 p.2
theorem v67S (p:SA) (h:okS p):isoCall (call dp) 67 [eS p]=some (.b (validSR p)):=(prmOkR p.1).V p.2 h
theorem sm_anR {α:Type} {P:Prm α} {e:α→D} {sm:α→Prop} (hV:∀ a,P.V a=true→sm a) {x:An α} (h:vAnR P e x=true):SmAn sm x:=by
 simp only [vAnR,fitAnR,Bool.and_eq_true,decide_eq_true_eq] at h
 obtain ⟨⟨⟨⟨h1,_⟩,_⟩,h2⟩,h3⟩:=h
 refine ⟨by omega,fun t ht=>?_⟩
 have h4:=List.all_eq_true.1 h2 t ht
 simp only [fiTm,Bool.and_eq_true,decide_eq_true_eq] at h4
 refine ⟨by omega,fun f hf=>sm_fc hV (vFs_all (vTs_all h3 t ht) f hf) ?_⟩
 have h5:=List.all_eq_true.1 h4.2 f hf
 simp only [fiFc,Bool.and_eq_true,decide_eq_true_eq] at h5
 exact h5.2
theorem sm_annR:∀ n (x:Ann n),validAnnR n x=true→SmAnn n x
 | 0,x=>nomatch x
 | n+1,x=>fun h=>sm_anR (P:=prmR n) (sm_annR n) h
section
variable {α:Type} {P P':Prm α} {w:α→Nat}
theorem vAt_congr (he:P.em=P'.em) (h1:P.isC=P'.isC) (h2:P.isU=P'.isU) (h3:P.hasC=P'.hasC) (h4:P.c=P'.c) {f:Fc α} (hV:∀ a,a∈f.args→P.V a=P'.V a) (hV':∀ p,p∈f.items→P.V p.2=P'.V p.2):vAt P f=vAt P' f:=by
 obtain ⟨V,em,iC,iU,hC,c⟩:=P
 obtain ⟨V',em',iC',iU',hC',c'⟩:=P'
 simp only at he h1 h2 h3 h4 hV hV'
 subst he h1 h2 h3 h4
 have e1:f.args.any (fun a=>!V a || em a)=f.args.any (fun a=>!V' a || em a):=by
  rw [Bool.eq_iff_iff,List.any_eq_true,List.any_eq_true]
  constructor
  ·rintro ⟨a,ha,h⟩;exact ⟨a,ha,by rwa [←hV a ha]⟩
  ·rintro ⟨a,ha,h⟩;exact ⟨a,ha,by rwa [hV a ha]⟩
 have e2:f.items.any (fun p=>!V p.2 || em p.2)=f.items.any (fun p=>!V' p.2 || em p.2):=by
  rw [Bool.eq_iff_iff,List.any_eq_true,List.any_eq_true]
  constructor
  ·rintro ⟨a,ha,h⟩;exact ⟨a,ha,by rwa [←hV' a ha]⟩
  ·rintro ⟨a,ha,h⟩;exact ⟨a,ha,by rwa [hV' a ha]⟩
 have e3:∀ l:List α,mon2 ⟨V,em,iC,iU,hC,c⟩ l=mon2 ⟨V',em,iC,iU,hC,c⟩ l:=fun l=>by unfold mon2;rfl
 have e4:∀ l:List α,del1 ⟨V,em,iC,iU,hC,c⟩ l=del1 ⟨V',em,iC,iU,hC,c⟩ l:=fun l=>by unfold del1;rfl
 have e5:∀ l:List α,abs1 ⟨V,em,iC,iU,hC,c⟩ l=abs1 ⟨V',em,iC,iU,hC,c⟩ l:=fun l=>by unfold abs1;rfl
 simp only [vAt,e1,e2,e3,e4,e5]
theorem vFs_congr (h4:P.c=P'.c):∀ (l:List (Fc α)) (p:Option (Fc α)),(∀ f,f∈l→vAt P f=vAt P' f)→vFs P p l=vFs P' p l
 | [],p,_=>by rw [vFs_nil,vFs_nil]
 | f::l,p,h=>by rw [vFs_cons,vFs_cons,h f (by simp),h4,vFs_congr h4 l _ fun g hg=>h g (by simp [hg])]
theorem vTs_congr (h4:P.c=P'.c):∀ (l:List (Tm α)) (p:Option (Tm α)),(∀ t,t∈l→∀ f,f∈t.fs→vAt P f=vAt P' f)→vTs P p l=vTs P' p l
 | [],p,_=>by rw [vTs_nil,vTs_nil]
 | t::l,p,h=>by rw [vTs_cons,vTs_cons,vFs_congr h4 t.fs _ (h t (by simp)),h4,vTs_congr h4 l _ fun g hg=>h g (by simp [hg])]
end
theorem valid_eq:∀ n (x:Ann n),OkAnn n x→wAnn n x≤40→validAnnR n x=validAnn n x
 | 0,x=>nomatch x
 | n+1,x=>fun hx hw=>by
  show (fitAnR (eAnn n) x&&vTs (prmR n) none x.ts)=(fitAn (eAnn n) x&&vTs (prm n) none x.ts)
  have f1:fitAnR (eAnn n) x=fitAn (eAnn n) x:=by
   have e1:callI 161 (eAn (eAnn n) x)=(neAnn (n+1) x:Nat):=callI_eq (v161 (n+1) x hx hw)
   have e2:callI 162 (eAn (eAnn n) x)=(szAnn (n+1) x:Nat):=callI_eq (v162 (n+1) x hx hw)
   have e3:callI 135 (eAn (eAnn n) x)=(neAnn (n+1) x:Nat):=callI_eq (v135 (n+1) x hx hw)
   have e4:callI 136 (eAn (eAnn n) x)=(szAnn (n+1) x:Nat):=callI_eq (v136 (n+1) x hx hw)
   unfold fitAnR fitAn
   simp only [e1,e2,e3,e4]
  have f2:vTs (prmR n) none x.ts=vTs (prm n) none x.ts:=vTs_congr (P:=prmR n) (P':=prm n) rfl x.ts none fun t ht f hf=>by
   have hot:=OkAn.ts hx t ht
   have hwf:=wLe_fc (wLe_tm hw ht) hf
   exact vAt_congr (P:=prmR n) (P':=prm n) rfl rfl rfl rfl rfl (fun a ha=>valid_eq n a ((hot.fs f hf).args a ha) (wLe_arg hwf ha)) (fun p hp=>valid_eq n p.2 ((hot.fs f hf).items p hp).2 (wLe_item hwf hp))
  rw [f1,f2]
theorem validS_eq (x:SA) (hx:okS x) (hw:smS x→wS x≤40):validSR x=validS x:=by
 cases h1:validSR x with
 | true=>
  have:=valid_eq x.1 x.2 hx (hw (sm_annR x.1 x.2 h1))
  exact h1.symm.trans this
 | false=>
  cases h2:validS x with
  | false=>rfl
  | true=>
   have:=valid_eq x.1 x.2 hx (hw (smS_valid h2))
   have h3:validSR x=validS x:=this
   rw [h1,h2] at h3;cases h3
end Go.Proofs.YtjlmeikcfdanmaaGreatDoor.DE.V
