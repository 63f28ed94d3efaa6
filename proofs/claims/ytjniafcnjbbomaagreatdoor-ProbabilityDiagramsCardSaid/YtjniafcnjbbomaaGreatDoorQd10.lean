/-
  SEVERAL TEXTS IN ONE (joined by tools/asm3.py of this repository): Gi.
-/
import Derived.Test.YtjniafcnjbbomaaGreatDoorQd9
set_option linter.unusedVariables false
set_option linter.unusedSimpArgs false
namespace Go.Proofs.YtjniafcnjbbomaaGreatDoor.DE.V
open Go NL
theorem dg_win {u:List Nat} {k m j:Nat} (h:j<m+3):dg (win u k m) j=dg u (k+j):=by
 simp only [dg,win,List.getElem?_take_of_lt h,List.getElem?_drop]
def NF (nl:Bool) (l:List Nat):Prop:=nl=true→l=[]
theorem r0_135 {d u q:List Nat} {A la m k g nq:Nat} (h:DM d u q A la m (k+1)) (hnq:q.length=nq) (hg:Good d (win u k m) g) (hla:la≤300) (a4 a5 a6 a9 a13 a14 a18 a95 a142 a149:D) (Q:Ex→List D→Store→Prop)
  (hQ:∀ u' q',DM d u' q' A la m k→q'.length=nq→Q .normal (mkf 175 [(4,a4),(5,a5),(6,a6),(9,a9),(10,eLims false d .ro),(11,.ar 1 0 0 (la+1)),(12,.ar 1 1 0 nq),(13,a13),(14,a14),(15,.i .i64 k),(17,.top),(18,.top),(95,a95),(142,.top),(149,.top)]) [.box (eCells q'),.box (eCells u')]) :
  s135_r0 (call dp) a4 a5 a6 a9 (eLims false d .ro) (.ar 1 0 0 (la+1)) (.ar 1 1 0 nq) a13 a14 (.i .i64 k) (.i .u64 g) a18 a95 a142 a149 [.box (eCells q),.box (eCells u)] Q:=by
 obtain ⟨W,hz,hu,hlk⟩:=h.cut
 have hlq:=h.lq
 have hkq:k<q.length:=h.k_le
 have hs0:∀ (X Y:List D) (e:Ent),sset [Ent.box X,.box Y] 0 e=[.box X,e]:=fun _ _ _=>rfl
 have hs1:∀ (X Y:List D) (e:Ent),sset [Ent.box X,.box Y] 1 e=[e,.box Y]:=fun _ _ _=>rfl
 obtain ⟨w,b,e1,lw,hw,hb1,ew⟩:=v214 false u d k g 0 [.box (eCells q),.box (eCells u)] rfl h.hu h.hd hg.lt (by rw [h.ld,h.lu];omega) (by rw [h.lu];omega)
 have em:m+2+1=m+3:=by omega
 rw [h.ld,em] at e1 lw ew
 rw [h.lu,hs0] at e1
 rw [show (u.drop k).take (m+3)=win u k m from rfl] at ew
 have l1:∀ X,sget [Ent.box (eCells q),.box X] 1=some (.box (eCells q)):=fun _=>rfl
 have hst:∀ (X:List D) (x:Nat),stD [Ent.box (eCells q),.box X] 1 false (.bx 1 k) (.i .u32 x)=some [.box (eCells (q.set k x)),.box X]:=fun X x=>by rw [st_cells (l1 X) hkq,hs1]
 simp only [s135_r0,e1,OX_some,jn]
 rcases (show b=0∨b=1 by omega) with hb | hb
 ·subst hb
  rw [Nat.mul_zero,Nat.add_zero] at ew
  obtain ⟨r1,r2⟩:=red_ok W hg ew
  have hd:=DM.step h r1 r2 lw hw
  simp only [show decide ((0:Nat)=1)=false from rfl,WB_false,conv32 hg.lt,OX_some,ia_ar (show k<nq by omega),Nat.zero_add,hst]
  exact hQ _ _ hd (by rw [List.length_set];exact hnq)
 ·subst hb
  have hU':(u.take k++(w++u.drop (k+(m+3)))).length=la+1:=by
   have h1:=congrArg List.length hu
   have h2:=W.lw
   rw [List.length_append,List.length_append,hlk,h2,h.lu] at h1
   simp only [List.length_append,hlk,lw]
   omega
  have hLU:Lim (u.take k++(w++u.drop (k+(m+3)))):=lim_app (lim_take _ h.hu) (lim_app hw (lim_drop _ h.hu))
  obtain ⟨w2,z,r,e2,lw2,hw2,ew2⟩:=v215 false _ d k 0 [.box (eCells q),.box (eCells (u.take k++(w++u.drop (k+(m+3)))))] rfl hLU h.hd (by rw [h.ld,hU'];have:=h.lu;omega) (by rw [hU'];omega)
  have t1:(u.take k++(w++u.drop (k+(m+3)))).take k=u.take k:=by
   rw [List.take_append_of_le_length (by omega),List.take_of_length_le (by omega)]
  have t2:(u.take k++(w++u.drop (k+(m+3)))).drop k=w++u.drop (k+(m+3)):=by
   rw [List.drop_append_of_le_length (by omega),List.drop_of_length_le (by omega),List.nil_append]
  have t3:(u.take k++(w++u.drop (k+(m+3)))).drop (k+(m+3))=u.drop (k+(m+3)):=by
   rw [←List.drop_drop,t2,List.drop_append_of_le_length (by omega),List.drop_of_length_le (by omega),List.nil_append]
  rw [h.ld,em] at e2 lw2 ew2
  rw [hU',hs0,t1,t3] at e2
  rw [t2,List.take_append_of_le_length (by omega),List.take_of_length_le (by omega)] at ew2
  rw [Nat.mul_one] at ew
  obtain ⟨g1,r1,r2⟩:=red_back W hg lw hw ew lw2 hw2 ew2
  have hd:=DM.step h r1 r2 lw2 hw2
  have hg1:g-1<B:=by have:=hg.lt;omega
  simp only [show decide ((1:Nat)=1)=true from rfl,WB_true,sub64 (b:=1) g1 (show g<18446744073709551616 by have:=hg.lt;simp only [B] at this;omega),show (1:Int)=((1:Nat):Int) from rfl,OX_some,e2,conv32 hg1,ia_ar (show k<nq by omega),Nat.zero_add,hst]
  exact hQ _ _ hd (by rw [List.length_set];exact hnq)
def K135 (d u q:List Nat) (m k nq la:Nat) (a9:D):Nat→List D→Store→Prop:=fun n fr S=>∃ g r a4 a5 a6 a95 a142 a149,n=g∧Gs d (win u k m) m g r∧r<B∧g<18446744073709551616∧S=[.box (eCells q),.box (eCells u)] ∧
 fr=mkf 175 [(4,a4),(5,a5),(6,a6),(9,a9),(10,eLims false d .ro),(11,.ar 1 0 0 (la+1)),(12,.ar 1 1 0 nq),(13,.i .u64 (dg d (m+1):Nat)),(14,.i .u64 (dg d m:Nat)),(15,.i .i64 k),(17,.i .u64 g),(18,.i .u64 r),(95,a95),(142,a142),(149,a149)]
def J135 (d:List Nat) (A la m nq:Nat) (a9:D):Nat→List D→Store→Prop:=fun k fr S=>∃ u q a4 a5 a6 a17 a18 a95 a142 a149,DM d u q A la m k∧List.length q=nq∧S=[.box (eCells q),.box (eCells u)] ∧
 fr=mkf 175 [(4,a4),(5,a5),(6,a6),(9,a9),(10,eLims false d .ro),(11,.ar 1 0 0 (la+1)),(12,.ar 1 1 0 nq),(13,.i .u64 (dg d (m+1):Nat)),(14,.i .u64 (dg d m:Nat)),(15,.i .i64 ((k:Int)-1)),(17,a17),(18,a18),(95,a95),(142,a142),(149,a149)]
set_option maxHeartbeats 2000000 in
theorem s135_1_ok {d u q:List Nat} {A la m k nq:Nat} (h:DM d u q A la m (k+1)) (hnq:q.length=nq) (hla:la≤300) (a4 a5 a6 a9 a17 a18 a95 a142 a149:D) (Q:Ex→List D→Store→Prop)
  (hQ:∀ u' q' a4 a5 a6 a95,DM d u' q' A la m k→q'.length=nq→Q .normal (mkf 175 [(4,a4),(5,a5),(6,a6),(9,a9),(10,eLims false d .ro),(11,.ar 1 0 0 (la+1)),(12,.ar 1 1 0 nq),(13,.i .u64 (dg d (m+1):Nat)),(14,.i .u64 (dg d m:Nat)),(15,.i .i64 ((k:Int)-1)),(17,.top),(18,.top),(95,a95),(142,.top),(149,.top)]) [.box (eCells q'),.box (eCells u')]) :
  s135_1 (call dp) a4 a5 a6 a9 (eLims false d .ro) (.ar 1 0 0 (la+1)) (.ar 1 1 0 nq) (.i .u64 (dg d (m+1):Nat)) (.i .u64 (dg d m:Nat)) (.i .i64 k) a17 a18 a95 a142 a149 [.box (eCells q),.box (eCells u)] Q:=by
 obtain ⟨W,hz,hu,hlk⟩:=h.cut
 have hlu:=h.lu
 have hlq:=h.lq
 have hkq:k<q.length:=h.k_le
 have hg:binD .geq .num (.i .i64 (k:Int)) (.i .i64 0)=some (.b true):=by rw [bin_geq];simp
 have l0:sget [Ent.box (eCells q),.box (eCells u)] 0=some (.box (eCells u)):=rfl
 have w2:=dg_win (u:=u) (k:=k) (m:=m) (j:=m+2) (by omega)
 have w1:=dg_win (u:=u) (k:=k) (m:=m) (j:=m+1) (by omega)
 have w0:=dg_win (u:=u) (k:=k) (m:=m) (j:=m) (by omega)
 have x2:=dg_lt W.hw (m+2)
 have x1:=dg_lt W.hw (m+1)
 have x0:=dg_lt W.hw m
 have htp:=W.tpos
 have htB:=dg_lt W.hd (m+1)
 have hnB:=dg_lt W.hd m
 have hU:dg (win u k m) (m+2) * B+dg (win u k m) (m+1)<18446744073709551616:=by simp only [B] at *;omega
 have hG:=gs_first W
 have hgl:(dg (win u k m) (m+2) * B+dg (win u k m) (m+1)) / dg d (m+1)≤dg (win u k m) (m+2) * B+dg (win u k m) (m+1):=Nat.div_le_self _ _
 have hrl:(dg (win u k m) (m+2) * B+dg (win u k m) (m+1)) % dg d (m+1)<dg d (m+1):=Nat.mod_lt _ htp
 have hsub:binD .sub .num (.i .i64 ((k+(m+2):Nat):Int)) (.i .i64 1)=some (.i .i64 ((k+(m+1):Nat):Int)):=by
  rw [bin_sub,show (((k+(m+2):Nat):Int)-1)=((k+(m+1):Nat):Int) by omega,wrapN (by omega)]
 have hsub2:binD .sub .num (.i .i64 ((k+(m+2):Nat):Int)) (.i .i64 2)=some (.i .i64 ((k+m:Nat):Int)):=by
  rw [bin_sub,show (((k+(m+2):Nat):Int)-2)=((k+m:Nat):Int) by omega,wrapN (by omega)]
 have hk1:binD .sub .num (.i .i64 (k:Int)) (.i .i64 1)=some (.i .i64 ((k:Int)-1)):=by
  rw [bin_sub,wrap64 ⟨by omega,by omega⟩]
 simp only [s135_1,hg,OX_some,WB_true,len_lims,h.ld,add_nat (show k+(m+2)<9223372036854775808 by omega),hsub,ia_ar (show k+(m+2)<la+1 by omega),ia_ar (show k+(m+1)<la+1 by omega),Nat.zero_add,ld_cells l0 (show k+(m+2)<u.length by omega),ld_cells l0 (show k+(m+1)<u.length by omega),←w2,←w1,
  conv64B x2,conv64B x1,shl32 x2,orB x2 x1,quo64 htp hU,rem64 htp]
 generalize hgg:(dg (win u k m) (m+2) * B+dg (win u k m) (m+1)) / dg d (m+1)=g0 at *
 generalize hrr:(dg (win u k m) (m+2) * B+dg (win u k m) (m+1)) % dg d (m+1)=r0 at *
 generalize hR:QS (call dp) c135_r0 (Qblk 1 (QS (call dp) c135_r1 Q))=R
 refine W_loop (K135 d u q m k nq la a9) ?_ g0 _ _ ⟨g0,r0,a4,a5,a6,.top,a142,a149,rfl,hG,by omega,by omega,rfl,rfl⟩
 rintro g fr S ⟨_,r,a4,a5,a6,a95,a142,a149,rfl,hGs,hr,hg64,rfl,rfl⟩
 rw [←wp_W,e135_0]
 have done:∀ gg a4 a5 a6 a95 r' a142 a149,Good d (win u k m) gg→R .normal (mkf 175 [(4,a4),(5,a5),(6,a6),(9,a9),(10,eLims false d .ro),(11,.ar 1 0 0 (la+1)),(12,.ar 1 1 0 nq),(13,.i .u64 (dg d (m+1):Nat)),(14,.i .u64 (dg d m:Nat)),(15,.i .i64 k),(17,.i .u64 gg),(18,r'),(95,a95),(142,a142),(149,a149)]) [.box (eCells q),.box (eCells u)]:=by
  intro gg a4 a5 a6 a95 r' a142 a149 hgood
  rw [←hR,QS_normal,e135_r0]
  refine r0_135 h hnq hgood hla _ _ _ _ _ _ _ _ _ _ _ ?_
  intro u' q' hd' hl'
  simp only [Qblk_normal,QS_normal,e135_r1,s135_r1,hk1,OX_some]
  exact hQ u' q' _ _ _ _ hd' hl'
 have hgB:binD .geq .num (.i .u64 g) (.i .u64 4294967296)=some (.b (decide (B≤g))):=geq_nat g B
 have dec:(B≤g∨r * B+dg (win u k m) m<g * dg d m)→WB (.b true)
   (OX (binD .sub .num (.i .u64 g) (.i .u64 1)) fun x44=>
    OX (binD .add .num (.i .u64 r) (.i .u64 (dg d (m+1):Nat))) fun x45=>
    OX (binD .geq .num x45 (.i .u64 4294967296)) fun x46=>
    WB x46
    (Qseq (fun fr' S'=>∃ m',m'<g∧K135 d u q m k nq la a9 m' fr' S') (Qblk 2 R) (.exit 2) (mkf 175 [(4,a4),(5,a5),(6,a6),(9,a9),(10,eLims false d .ro),(11,.ar 1 0 0 (la+1)),(12,.ar 1 1 0 nq),(13,.i .u64 (dg d (m+1):Nat)),(14,.i .u64 (dg d m:Nat)),(15,.i .i64 k),(17,x44),(18,x45),(95,a95),(142,.top),(149,x46)]) [.box (eCells q),.box (eCells u)])
    (Qseq (fun fr' S'=>∃ m',m'<g∧K135 d u q m k nq la a9 m' fr' S') (Qblk 2 R) .normal (mkf 175 [(4,a4),(5,a5),(6,a6),(9,a9),(10,eLims false d .ro),(11,.ar 1 0 0 (la+1)),(12,.ar 1 1 0 nq),(13,.i .u64 (dg d (m+1):Nat)),(14,.i .u64 (dg d m:Nat)),(15,.i .i64 k),(17,x44),(18,x45),(95,a95),(142,.top),(149,x46)]) [.box (eCells q),.box (eCells u)])) (False):=by
  intro hc
  obtain ⟨g1,hGs'⟩:=gs_step W hGs hc
  have e1:=sub64 (b:=1) g1 hg64
  have e2:=add64 (a:=r) (b:=dg d (m+1)) (by simp only [B] at *;omega)
  have e3:binD .geq .num (.i .u64 ((r+dg d (m+1):Nat):Int)) (.i .u64 4294967296)=some (.b (decide (B≤r+dg d (m+1)))):=geq_nat _ B
  rw [show ((1:Nat):Int)=1 from rfl] at e1
  simp only [WB_true,e1,e2,e3,OX_some]
  by_cases hb:B≤r+dg d (m+1)
  ·simp only [hb,decide_true,WB_true,Qseq_exit,Qblk_same]
   exact done _ _ _ _ _ _ _ _ (gs_break W hGs' hb)
  ·simp only [hb,decide_false,WB_false,Qseq_normal]
   exact ⟨g-1,by omega,g-1,_,a4,a5,a6,a95,.top,_,rfl,hGs',by omega,by omega,rfl,rfl⟩
 by_cases h1:B≤g
 ·have:=dec (.inl h1)
  rw [WB_true] at this
  simp only [s135_0,hgB,h1,decide_true,gsel_tf,gsel_skip,OX_some,pick_t,WB_true]
  exact this
 ·have hg2:g<B:=by omega
  have hmul:g * dg d m<18446744073709551616:=by
   have:=Nat.mul_le_mul (Nat.le_of_lt hg2) (Nat.le_of_lt hnB)
   have h3:g * dg d m≤(B-1) * (B-1):=Nat.mul_le_mul (by omega) (by omega)
   simp only [B] at h3;omega
  have hgt:∀ a b:Nat,binD .gtr .num (.i .u64 a) (.i .u64 b)=some (.b (decide (b<a))):=fun a b=>by rw [bin_gtr];simp
  simp only [s135_0,hgB,h1,decide_false,gsel_ff,OX_some,pick_f,mul64 hmul,shl32 hr,len_lims,h.ld,add_nat (show k+(m+2)<9223372036854775808 by omega),hsub2,ia_ar (show k+m<la+1 by omega),Nat.zero_add,ld_cells l0 (show k+m<u.length by omega),←w0,conv64B x0,orB hr x0,hgt]
  by_cases h2:r * B+dg (win u k m) m<g * dg d m
  ·have:=dec (.inr h2)
   rw [WB_true] at this
   simp only [h2,decide_true,WB_true]
   exact this
  ·simp only [h2,decide_false,WB_false,Qseq_exit,Qblk_same]
   exact done _ _ _ _ _ _ _ _ (gs_fit W hGs hg2 (by omega))
set_option maxHeartbeats 4000000 in
theorem v135 (nl nl':Bool) (a b:List Nat) (ha:VN a) (hb:VN b) (la:Lim a) (lb:Lim b) (hn:NF nl a) (h0:b≠[]) :
  ∃ n1 n2,isoCall (call dp) 135 [eLims nl a .ro,eLims nl' b .ro]=some (.tup [eLims n1 (ofN (val a / val b)) .ro,eLims n2 (ofN (val a % val b)) .ro,.i .i64 0])∧NF n1 (ofN (val a / val b))∧NF n2 (ofN (val a % val b)):=by
 have h1:=ha.1
 have h2:=hb.1
 have hba:Bd a.length:=by unfold Bd;omega
 have hbb:Bd b.length:=by unfold Bd;omega
 have hbpos:b.length≠0:=by simpa using h0
 have hvb:=Can.pos (hb.can lb) h0
 obtain ⟨r,e,n1,n2,rfl,f1,f2⟩:=j135 (eLims nl a .ro) (eLims nl' b .ro) (fun d=>∃ n1 n2,d = .tup [eLims n1 (ofN (val a / val b)) .ro,eLims n2 (ofN (val a % val b)) .ro,.i .i64 0]∧NF n1 (ofN (val a / val b))∧NF n2 (ofN (val a % val b))) (by simp [noRefL]) (by rintro _ ⟨n1,n2,rfl,_⟩;simp [noRef,noRefL]) (by
  have hz:binD .eql .num (.i .i64 (b.length:Int)) (.i .i64 0)=some (.b false):=by rw [bin_eql];simp [h0]
  have hsg:binD .lss .num (.i .i64 (sgn (val a) (val b))) (.i .i64 0)=some (.b (decide (val a<val b))):=by rw [bin_lss,sgn_lt]
  have hone:binD .eql .num (.i .i64 (b.length:Int)) (.i .i64 1)=some (.b (decide (b.length=1))):=by rw [bin_eql];simp;omega
  simp only [s135,strip_lims,v105 nl a hba,v105 nl' b hbb,ha,hb,decide_true,OX_some,un_not,Bool.not_true,gsel_ff,pick_f,len_lims,hz,WB_false,v82 nl nl' a b ha hb la lb,hsg,hone]
  by_cases hlt:val a<val b
  ·simp only [hlt,decide_true,WB_true,v110 nl a hn (by omega),v146 nl a la hba,OX_some]
   refine ⟨true,nl,?_,?_,?_⟩
   ·rw [Nat.div_eq_of_lt hlt,Nat.mod_eq_of_lt hlt,ofN_zero];rfl
   ·intro _;rw [Nat.div_eq_of_lt hlt,ofN_zero]
   ·intro h;rw [Nat.mod_eq_of_lt hlt,hn h];exact ofN_zero
  ·simp only [hlt,decide_false,WB_false]
   by_cases hl1:b.length=1
   ·obtain ⟨x,rfl⟩:∃ x,b=[x]:=by
     cases b with
     | nil=>simp at hl1
     | cons x t=>cases t with
      | nil=>exact ⟨x,rfl⟩
      | cons y t=>simp at hl1
    have hxB:x<B:=lb x (by simp)
    have hx:val [x]=x:=by simp [val]
    have hd0:dg [x] 0=x:=rfl
    have ia:=ia_lims (nl:=nl') (l:=[x]) (o:=.ro) (k:=.i64) (i:=0) (by simp)
    rw [hd0] at ia
    rw [hx] at hvb hlt ⊢
    have hr:val a % x<x:=Nat.mod_lt _ hvb
    have hrB:val a % x<B:=Nat.lt_trans hr hxB
    rw [show ((0:Nat):Int)=0 from rfl] at ia
    simp only [hl1,decide_true,WB_true,ia,OX_some,ld_el1,v154 nl a x la (by omega) hvb hxB,ext_eq,List.getElem?_cons_zero,List.getElem?_cons_succ,conv64B hrB,v83 (n:=val a % x) (by generalize val a % x=y at *;simp only [B] at hrB;omega)]
    exact ⟨false,false,rfl,fun h=>(by cases h),fun h=>(by cases h)⟩
   ·obtain ⟨m,hm⟩:∃ m,b.length=m+2:=⟨b.length-2,by omega⟩
    have hle:b.length≤a.length:=len_le_of_val la (hb.can lb) (by omega)
    have htop:dg b (m+1)≠0:=by
     have:=hb.2
     rw [last_dg h0,hm] at this
     simpa using this
    have htB:=dg_lt lb (m+1)
    have hs32:31-Nat.log2 (dg b (m+1))<32:=by omega
    obtain ⟨k1,k2,k3,k4⟩:=norm_shift lb hm htop rfl
    obtain ⟨out,e213,lo,hLo,hvo⟩:=v213 nl' b (31-Nat.log2 (dg b (m+1))) lb (by omega) hs32
    obtain ⟨u,e1213,lu,hLu,hvu⟩:=v1213 nl a (31-Nat.log2 (dg b (m+1))) [] la (by omega) hs32
    have hls:b.length-1=m+1:=by omega
    have ia:=ia_lims (nl:=nl') (l:=b) (o:=.ro) (k:=.i64) (i:=m+1) (by omega)
    have hd1:Lim (out.take (m+2)):=lim_take _ hLo
    have ld:(out.take (m+2)).length=m+2:=by rw [List.length_take];omega
    have vd:val (out.take (m+2))=val b * 2 ^ (31-Nat.log2 (dg b (m+1))):=by
     rw [take_of_lt hLo (by omega) (by rw [hvo];exact k2),hvo]
    have slc:slcD 1 (eLims false out .ro) none (some (.i .i64 ((m+2:Nat):Int)))=some (eLims false (out.take (m+2)) .ro):=slc_lims (by omega)
    generalize out.take (m+2)=d at *
    have iad1:=ia_lims (nl:=false) (l:=d) (o:=.ro) (k:=.i64) (i:=m+1) (by omega)
    have iad0:=ia_lims (nl:=false) (l:=d) (o:=.ro) (k:=.i64) (i:=m) (by omega)
    have start:=DM.start la lb rfl hm (by omega) htop rfl hd1 ld vd hLu lu hvu rfl
    generalize hs:31-Nat.log2 (dg b (m+1))=s at *
    have hmk:=mksl_lims (S:=[Ent.box (eCells u)]) (n:=a.length-(m+2)+1) (by unfold maxLenD;omega)
    have sb1:binD .sub .num (.i .i64 ((m+2:Nat):Int)) (.i .i64 1)=some (.i .i64 ((m+1:Nat):Int)):=sub_nat (a:=m+2) (b:=1) (by omega) (by omega)
    have sb2:binD .sub .num (.i .i64 ((m+2:Nat):Int)) (.i .i64 2)=some (.i .i64 ((m:Nat):Int)):=sub_nat (a:=m+2) (b:=2) (by omega) (by omega)
    have sb3:binD .sub .num (.i .i64 ((a.length:Nat):Int)) (.i .i64 ((m+2:Nat):Int))=some (.i .i64 ((a.length-(m+2):Nat):Int)):=sub_nat (by omega) (by omega)
    have sb4:binD .sub .num (.i .i64 ((a.length-(m+2)+1:Nat):Int)) (.i .i64 1)=some (.i .i64 (((a.length-(m+2)+1:Nat):Int)-1)):=by rw [bin_sub,wrap64 ⟨by omega,by omega⟩]
    have h212:=v212 htB htop
    rw [hs] at h212
    simp only [hm,show decide (m+2=1)=false by simp,WB_false,sb1,ia,OX_some,ld_el1,h212,e213,slc,e1213,List.length_nil,sb3,inc_nat (show Bd (a.length-(m+2)) by unfold Bd;omega),hmk,len_lims,ld,iad1,sb2,iad0,conv64B (dg_lt hd1 (m+1)),conv64B (dg_lt hd1 m),len_ar,sb4,List.length_cons,Nat.zero_add]
    have lq:(List.replicate (a.length-(m+2)+1) 0).length=a.length-(m+2)+1:=List.length_replicate
    generalize a.length-(m+2)+1=nq at *
    generalize hR:QS (call dp) c135_r2 _=R
    refine W_loop (J135 d (val a * 2 ^ s) a.length m nq (.i .i64 s)) ?_ nq _ _ ⟨u,_,.top,.top,.top,.top,.top,.top,.top,.top,start,lq,rfl,rfl⟩
    rintro k fr S ⟨u,q,a4,a5,a6,a17,a18,a95,a142,a149,hD,hq,rfl,rfl⟩
    rw [←wp_W,e135_1]
    cases k with
    | succ k=>
     have e1:((k+1:Nat):Int)-1=k:=by omega
     rw [e1]
     refine s135_1_ok hD hq (by omega) _ _ _ _ _ _ _ _ _ _ ?_
     intro u' q' a4 a5 a6 a95 hd' hl'
     rw [Qseq_normal]
     exact ⟨k,by omega,u',q',a4,a5,a6,.top,.top,a95,.top,.top,hd',hl',rfl,rfl⟩
    | zero=>
     obtain ⟨f1,f2⟩:=hD.fin
     have hg:binD .geq .num (.i .i64 (((0:Nat):Int)-1)) (.i .i64 0)=some (.b false):=by rw [bin_geq];rfl
     have fu:=fz_lims (S:=[Ent.box (eCells q),.box (eCells u)]) (id:=0) (l:=u) rfl
     have fq:=fz_lims (S:=[Ent.box (eCells q),.gone]) (id:=1) (l:=q) rfl
     rw [hD.lu] at fu
     rw [hq] at fq
     have hs0:sset [Ent.box (eCells q),.box (eCells u)] 0 .gone=[.box (eCells q),.gone]:=rfl
     rw [hs0] at fu
     have hqv:val q=val a / val b:=by rw [f1,vd,Nat.mul_div_mul_right _ _ (Nat.two_pow_pos s)]
     have huv:val u=val a % val b * 2 ^ s:=by rw [f2,vd,Nat.mul_mod_mul_right]
     have hut:val (u.take (m+2))=val u:=by
      refine take_of_lt hD.hu (by rw [hD.lu];omega) ?_
      rw [f2]
      have:=Nat.mod_lt (val a * 2 ^ s) (show 0<val d by rw [vd];exact Nat.mul_pos hvb (Nat.two_pow_pos s))
      have h3:=val_lt hd1
      rw [ld] at h3
      exact Nat.lt_trans this h3
     have slu:slcD 1 (eLims false u .ro) none (some (.i .i64 ((m+2:Nat):Int)))=some (eLims false (u.take (m+2)) .ro):=slc_lims (by rw [hD.lu];omega)
     obtain ⟨w,e216,lw,hLw,hvw⟩:=v216 false (u.take (m+2)) s (lim_take _ hD.hu) (by rw [List.length_take];omega) k1
     rw [hut,huv,Nat.mul_div_cancel _ (Nat.two_pow_pos s)] at hvw
     have t1:=v146 false q hD.hq (by unfold Bd;have:=hD.lq;omega)
     have t2:=v146 false w hLw (by rw [lw,List.length_take];unfold Bd;omega)
     rw [hqv] at t1
     rw [hvw] at t2
     simp only [s135_1,hg,OX_some,WB_false,Qseq_exit,Qblk_same]
     rw [←hR]
     simp only [QS_normal,OX_some,e135_r2,s135_r2,fu,fq,t1,len_lims,ld,slu,e216,t2]
     simp only [FinK,finR]
     exact ⟨false,false,rfl,fun h=>(by cases h),fun h=>(by cases h)⟩)
 exact ⟨n1,n2,e,f1,f2⟩
end Go.Proofs.YtjniafcnjbbomaaGreatDoor.DE.V
