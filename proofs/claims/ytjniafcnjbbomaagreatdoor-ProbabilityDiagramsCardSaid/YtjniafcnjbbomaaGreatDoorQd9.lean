/-
  SEVERAL TEXTS IN ONE (joined by tools/asm3.py of this repository): Gg, Gh.
-/
import Derived.Test.YtjniafcnjbbomaaGreatDoorQd8
set_option linter.unusedVariables false
set_option linter.unusedSimpArgs false
namespace Go.Proofs.YtjniafcnjbbomaaGreatDoor.DE.V
open Go NL
theorem take_of_lt {l:List Nat} (h:Lim l) {k:Nat} (hk:k≤l.length) (hv:val l<B ^ k):val (l.take k)=val l:=by
 have e:=val_take_drop l k hk
 have d:=val_drop h k
 rw [Nat.div_eq_of_lt hv] at d
 rw [d] at e
 omega
def J213 (nl:Bool) (a:List Nat) (s:Nat) (S:Store):Nat→List D→Store→Prop:=fun q fr S'=>∃ i out a4 a15,q=a.length-i∧i≤a.length∧List.length out=a.length+1∧Lim out∧(∀ j,i<j→dg out j=0)∧dg out i<2 ^ s ∧
 val out=val (a.take i) * 2 ^ s∧S' = .box (eCells out)::S ∧
 fr=mkf 41 [(0,eLims nl a .ro),(1,.i .i64 s),(4,a4),(5,.ar 1 S.length 0 (a.length+1)),(13,.i .i64 a.length),(14,.i .i64 i),(15,a15)]
theorem left_step {P O O1 O2 c w V x t:Nat} (h:O=V * t) (h1:O1+P * c=O+P * (c+w % B)) (h2:O2=O1+P * B * (w / B)) (hw:w=x * t):O2=(V+P * x) * t:=by
 have e1:=Nat.mod_add_div w B
 have e2:=congrArg (P * ·) e1
 simp only [Nat.mul_add] at e2 h1
 rw [Nat.mul_assoc] at h2
 rw [Nat.add_mul,Nat.mul_assoc,←hw]
 omega
theorem left_loop (nl:Bool) (a:List Nat) (s:Nat) (S:Store) (la:Lim a) (hb:a.length≤1000) (hs:s<32) (Q:Ex→List D→Store→Prop)
  (hQ:∀ out a4 a13 a14 a15,List.length out=a.length+1→Lim out→val out=val a * 2 ^ s→Q .normal (mkf 41 [(0,eLims nl a .ro),(1,.i .i64 s),(4,a4),(5,.ar 1 S.length 0 (a.length+1)),(13,a13),(14,a14),(15,a15)]) (.box (eCells out)::S)) :
  W (call dp) (.loop [] c213_0) (mkf 41 [(0,eLims nl a .ro),(1,.i .i64 s),(4,.top),(5,.ar 1 S.length 0 (a.length+1)),(13,.i .i64 a.length),(14,.i .i64 0),(15,.top)]) (.box (eCells (List.replicate (a.length+1) 0))::S) (Qblk 0 Q):=by
 have hps:=Nat.two_pow_pos s
 refine W_loop (J213 nl a s S) ?_ a.length _ _ ⟨0,_,.top,.top,by omega,by omega,List.length_replicate,lim_zeros _,fun j _=>dg_zeros _ j,by rw [dg_zeros];exact hps,by rw [val_zeros];simp [val],rfl,rfl⟩
 rintro q fr S' ⟨i,out,a4,a15,rfl,hi,lo,hL,hz,hc,he,rfl,rfl⟩
 rw [←wp_W,e213_0]
 by_cases hlt:i<a.length
 ·have hx:=dg_lt la i
  have hp32:2 ^ s≤2147483648:=by
   have:=Nat.pow_le_pow_right (show 0<2 by decide) (show s≤31 by omega)
   simpa using this
  have hw:dg a i * 2 ^ s<18446744073709551616:=by
   have:=Nat.mul_le_mul (Nat.le_of_lt hx) hp32
   simp only [B] at this;omega
  have hhi:=left_hi (s:=s) hx
  have hhB:dg a i * 2 ^ s / B<B:=by simp only [B] at *;omega
  have hor:=left_or (x:=dg a i) hs hc
  have l0:sget (Ent.box (eCells out)::S) S.length=some (.box (eCells out)):=sget_top _ _
  have l1:sget (Ent.box (eCells (out.set i (dg out i+dg a i * 2 ^ s % B)))::S) S.length=some (.box (eCells (out.set i (dg out i+dg a i * 2 ^ s % B)))):=sget_top _ _
  have ho:=or32 (dg_lt hL i) (Nat.mod_lt (dg a i * 2 ^ s) B_pos)
  rw [hor.1] at ho
  simp only [s213_0,lss_nat,hlt,decide_true,OX_tt,OX_some,WB_true,ia_lims hlt,ld_el1,conv64B hx,shl_any (k':=.i64) (show s≤64 by omega) hw,ia_ar (show i<a.length+1 by omega),Nat.zero_add,
   ld_cells l0 (show i<out.length by omega),conv32m,ho,st_cells l0 (show i<out.length by omega),sset_top,inc_nat (show Bd i by unfold Bd;omega),shr32,ia_ar (show i+1<a.length+1 by omega),Nat.mod_eq_of_lt hhB,
   st_cells l1 (show i+1<(out.set i (dg out i+dg a i * 2 ^ s % B)).length by rw [List.length_set];omega),Qseq_normal]
  refine ⟨a.length-(i+1),by omega,i+1,(out.set i (dg out i+dg a i * 2 ^ s % B)).set (i+1) (dg a i * 2 ^ s / B),a4,.top,rfl,by omega,by simpa using lo,lim_set (lim_set hL hor.2) hhB,?_,?_,?_,rfl,rfl⟩
  ·intro j hj
   rw [dg_set_ne (by omega),dg_set_ne (by omega)]
   exact hz j (by omega)
  ·rw [dg_set (by rw [List.length_set];omega)]
   exact hhi
  ·rw [vt_succ]
   refine left_step he (val_set _ (by omega)) ?_ rfl
   rw [val_set0 _ (by rw [List.length_set];omega) (by rw [dg_set_ne (by omega)];exact hz _ (by omega)),Nat.pow_succ]
 ·have:i=a.length:=by omega
  subst this
  rw [vt_full (Nat.le_refl _)] at he
  simp only [s213_0,lss_nat,hlt,decide_false,OX_ff,WB_false,Qseq_exit,Qblk_same]
  exact hQ out a4 _ _ _ lo hL he
theorem v213 (nl:Bool) (a:List Nat) (s:Nat) (la:Lim a) (hb:a.length≤1000) (hs:s<32) :
  ∃ out,isoCall (call dp) 213 [eLims nl a .ro,.i .i64 s]=some (eLims false out .ro)∧out.length=a.length+1∧Lim out∧val out=val a * 2 ^ s:=by
 obtain ⟨r,e,out,rfl,h1,h2,h3⟩:=j213 (eLims nl a .ro) (.i .i64 s) (fun d=>∃ out,d=eLims false out .ro∧out.length=a.length+1∧Lim out∧val out=val a * 2 ^ s) (by simp [noRefL]) (by rintro _ ⟨out,rfl,_⟩;simp) (by
  simp only [s213,strip_lims,strip_i,len_lims,OX_some,inc_nat (show Bd a.length by unfold Bd;omega),mksl_lims (S:=[]) (n:=a.length+1) (show a.length+1≤maxLenD by unfold maxLenD;omega)]
  refine left_loop nl a s [] la hb hs _ ?_
  intro out a4 a13 a14 a15 lo hL hv
  have hf:=fz_lims (sget_top (Ent.box (eCells out)) [])
  rw [lo] at hf
  simp only [QS_normal,e213_r0,s213_r0,hf,OX_some]
  simp
  exact ⟨out,rfl,lo,hL,hv⟩)
 exact ⟨out,e,h1,h2,h3⟩
theorem v1213 (nl:Bool) (a:List Nat) (s:Nat) (S:Store) (la:Lim a) (hb:a.length≤1000) (hs:s<32) :
  ∃ out,call dp 1213 [eLims nl a .ro,.i .i64 s] S=some (.ar 1 S.length 0 (a.length+1),.box (eCells out)::S)∧out.length=a.length+1∧Lim out∧val out=val a * 2 ^ s:=by
 obtain ⟨r,S',e,out,rfl,rfl,h1,h2,h3⟩:=f1213 (eLims nl a .ro) (.i .i64 s) S (fun d S'=>∃ out,d = .ar 1 S.length 0 (a.length+1)∧S' = .box (eCells out)::S∧out.length=a.length+1∧Lim out∧val out=val a * 2 ^ s) (by
  simp only [s1213,len_lims,OX_some,inc_nat (show Bd a.length by unfold Bd;omega),mksl_lims (S:=S) (n:=a.length+1) (show a.length+1≤maxLenD by unfold maxLenD;omega)]
  refine left_loop nl a s S la hb hs _ ?_
  intro out a4 a13 a14 a15 lo hL hv
  simp only [QS_normal,e1213_r0,s1213_r0]
  simp
  exact ⟨out,rfl,lo,hL,hv⟩)
 exact ⟨out,e,h1,h2,h3⟩
def J216 (nl:Bool) (a:List Nat) (s:Nat):Nat→List D→Store→Prop:=fun q fr S'=>∃ i out a4 a14,q=a.length-i∧i≤a.length∧List.length out=a.length∧Lim out∧(∀ j,j<i→dg out j=val a / 2 ^ s / B ^ j % B) ∧
 S'=[.box (eCells out)] ∧
 fr=mkf 44 [(0,eLims nl a .ro),(1,.i .i64 s),(4,a4),(5,.ar 1 0 0 a.length),(12,.i .i64 a.length),(13,.i .i64 i),(14,a14)]
theorem v216 (nl:Bool) (a:List Nat) (s:Nat) (la:Lim a) (hb:a.length≤1000) (hs:s<32) :
  ∃ out,isoCall (call dp) 216 [eLims nl a .ro,.i .i64 s]=some (eLims false out .ro)∧out.length=a.length∧Lim out∧val out=val a / 2 ^ s:=by
 obtain ⟨r,e,out,rfl,h1,h2,h3⟩:=j216 (eLims nl a .ro) (.i .i64 s) (fun d=>∃ out,d=eLims false out .ro∧out.length=a.length∧Lim out∧val out=val a / 2 ^ s) (by simp [noRefL]) (by rintro _ ⟨out,rfl,_⟩;simp) (by
  simp only [s216,strip_lims,strip_i,len_lims,OX_some,mksl_lims (S:=[]) (n:=a.length) (show a.length≤maxLenD by unfold maxLenD;omega),List.length_nil]
  refine W_loop (J216 nl a s) ?_ a.length _ _ ⟨0,_,.top,.top,by omega,by omega,List.length_replicate,lim_zeros _,fun j h=>by omega,rfl,rfl⟩
  rintro q fr S' ⟨i,out,a4,a14,rfl,hi,lo,hL,hd,rfl,rfl⟩
  rw [←wp_W,e216_0]
  have l0:sget [Ent.box (eCells out)] 0=some (.box (eCells out)):=rfl
  by_cases hlt:i<a.length
  ·have hx:=dg_lt la i
   have hy:=dg_lt la (i+1)
   have hr:=right_dg la hs hlt
   have hst:∀ x,stD [Ent.box (eCells out)] 1 false (.bx 0 i) (.i .u32 (x:Nat))=some [.box (eCells (out.set i x))]:=fun x=>st_cells (x:=x) l0 (show i<out.length by omega)
   have fin:∃ m',m'<a.length-i∧J216 nl a s m' (mkf 44 [(0,eLims nl a .ro),(1,.i .i64 s),(4,a4),(5,.ar 1 0 0 a.length),(12,.i .i64 a.length),(13,.i .i64 ((i+1:Nat):Int)),(14,.top)]) [.box (eCells (out.set i ((dg a i+dg a (i+1) * B) / 2 ^ s % B)))]:=by
    refine ⟨a.length-(i+1),by omega,i+1,_,a4,.top,rfl,by omega,by simpa using lo,lim_set hL (Nat.mod_lt _ B_pos),?_,rfl,rfl⟩
    intro j hj
    by_cases hji:j=i
    ·subst hji
     rw [dg_set (by omega),hr]
    ·rw [dg_set_ne (by omega)]
     exact hd j (by omega)
   have hor:=orB hy hx
   rw [show dg a (i+1) * B+dg a i=dg a i+dg a (i+1) * B by omega] at hor
   have hor':binD .or .num (.i .u64 (dg a i:Nat)) (.i .u64 ((dg a (i+1) * B:Nat):Int))=some (.i .u64 ((dg a i+dg a (i+1) * B:Nat):Int)):=by
    rw [or64 (by simp only [B] at hx;omega) (by simp only [B] at hy ⊢;omega),B_two,or_add (s:=32) hx]
   have hsh:∀ v:Nat,binD .shr .num (.i .u64 v) (.i .i64 s)=some (.i .u64 ((v / 2 ^ s:Nat):Int)):=fun v=>shr_any (k:=.u64) (k':=.i64) (v:=v) (s:=s) (by simp only [IntKind.bits];omega)
   by_cases hl2:i+1<a.length
   ·simp only [s216_0,jn,lss_nat,hlt,hl2,decide_true,OX_tt,OX_some,WB_true,ia_lims hlt,ia_lims hl2,ld_el1,conv64B hx,conv64B hy,inc_nat (show Bd i by unfold Bd;omega),len_lims,shl32 hy,hor',hsh,conv32m,ia_ar hlt,Nat.zero_add,hst,Qseq_normal]
    exact fin
   ·have hz:dg a (i+1)=0:=dg_ge (by omega)
    rw [hz] at fin
    simp only [Nat.zero_mul,Nat.add_zero] at fin
    simp only [s216_0,jn,lss_nat,hlt,hl2,decide_true,decide_false,OX_tt,OX_ff,OX_some,WB_true,WB_false,ia_lims hlt,ld_el1,conv64B hx,inc_nat (show Bd i by unfold Bd;omega),len_lims,hsh,conv32m,ia_ar hlt,Nat.zero_add,hst,Qseq_normal]
    exact fin
  ·have:i=a.length:=by omega
   subst this
   have hf:=fz_lims l0
   rw [lo] at hf
   have hv:val out=val a / 2 ^ s:=by
    refine val_digits ?_ (fun j hj=>hd j (by omega))
    have:=val_lt la
    rw [lo]
    exact Nat.lt_of_le_of_lt (Nat.div_le_self _ _) this
   simp only [s216_0,jn,lss_nat,hlt,decide_false,OX_ff,WB_false,Qseq_exit,Qblk_same,QS_normal,e216_r0,s216_r0,hf,OX_some]
   simp
   exact ⟨out,rfl,lo,hL,hv⟩)
 exact ⟨out,e,h1,h2,h3⟩
end Go.Proofs.YtjniafcnjbbomaaGreatDoor.DE.V

namespace Go.Proofs.YtjniafcnjbbomaaGreatDoor.DE.V
open Go NL
theorem sset_sset {α:Type} (x y:α):∀ (S:List α) (id:Nat),sset (sset S id x) id y=sset S id y
 | [],id=>rfl
 | e::S,id=>by
  by_cases h:id=S.length
  ·simp [sset,h]
  ·have h2:¬id=(sset S id x).length:=by rw [sset_len];exact h
   simp [sset,h,h2,sset_sset x y S id]
theorem sset_self {α:Type} {x:α}:∀ {S:List α} {id:Nat},sget S id=some x→sset S id x=S
 | [],id,h=>by cases h
 | e::S,id,h=>by
  by_cases h1:id=S.length
  ·simp [sget,h1] at h
   simp [sset,h1,h]
  ·simp [sget,h1] at h
   simp [sset,h1,sset_self h]
theorem cut3 (O:List Nat) (k n:Nat):O=O.take k++((O.drop k).take n++O.drop (k+n)):=by
 rw [←List.drop_drop,List.take_append_drop,List.take_append_drop]
theorem win_val {O U:List Nat} {k n:Nat} (h1:O.take k=U.take k) (h2:O.drop (k+n)=U.drop (k+n)) (lo:O.length=U.length) (hk:k+n≤U.length) {X Y:Nat} (h:val O+B ^ k * X=val U+B ^ k * Y) :
  val ((O.drop k).take n)+X=val ((U.drop k).take n)+Y:=by
 have e1:=congrArg val (cut3 O k n)
 have e2:=congrArg val (cut3 U k n)
 rw [val_append,val_append,h1,h2] at e1
 rw [val_append,val_append] at e2
 simp only [List.length_take,List.length_drop,Nat.min_eq_left (show k≤U.length by omega),Nat.min_eq_left (show n≤O.length-k by omega),Nat.min_eq_left (show n≤U.length-k by omega)] at e1 e2
 rw [e1,e2] at h
 have:B ^ k * (val ((O.drop k).take n)+X)=B ^ k * (val ((U.drop k).take n)+Y):=by
  simp only [Nat.mul_add] at h ⊢
  omega
 exact Nat.eq_of_mul_eq_mul_left (Bp k) this
theorem take_set_ge {l:List Nat} {i k x:Nat} (h:k≤i):(l.set i x).take k=l.take k:=by
 rw [List.take_set,List.set_eq_of_length_le (by rw [List.length_take];omega)]
theorem drop_set_lt {l:List Nat} {i k x:Nat} (h:i<k):(l.set i x).drop k=l.drop k:=List.drop_set_of_lt h
theorem red_step {P O O' A c b q y t old new b' U D k:Nat} (h:O+A * (q * D)=U+P * (b+c)) (hO:O'+P * old=O+P * new) (hn:new+t % B+b=old+B * b') (ht:t=c+q * y) (hP:P=A * k):O'+A * (q * (D+k * y))=U+P * B * (b'+t / B):=by
 have h1:=Nat.mod_add_div t B
 have h2:=congrArg (P * ·) h1
 have h3:=congrArg (P * ·) hn
 simp only [Nat.mul_add] at h2 h3 h
 have h4:P * t=P * c+P * (q * y):=by rw [ht,Nat.mul_add]
 have h5:A * (q * (D+k * y))=A * (q * D)+P * (q * y):=by
  rw [hP,Nat.mul_add,Nat.mul_add]
  congr 1
  rw [Nat.mul_assoc A k,Nat.mul_left_comm q k]
 rw [h5,Nat.mul_assoc,Nat.mul_add,Nat.mul_add]
 omega
def J214 (nl:Bool) (U d:List Nat) (k q id:Nat) (S:Store):Nat→List D→Store→Prop:=fun m fr S'=>∃ j O c b a8 a15,m=d.length-j∧j≤d.length∧c<B∧b≤1∧List.length O=U.length∧Lim O∧O.take k=U.take k∧O.drop (k+(d.length+1))=U.drop (k+(d.length+1)) ∧
 val O+B ^ k * (q * val (d.take j))=val U+B ^ (k+j) * (b+c)∧S'=sset S id (.box (eCells O)) ∧
 fr=mkf 69 [(0,.ar 1 id 0 U.length),(1,eLims nl d .ro),(2,.i .i64 k),(3,.i .u64 q),(8,a8),(9,.i .u64 c),(10,.i .u32 b),(13,.i .i64 d.length),(14,.i .i64 j),(15,a15)]
theorem v214 (nl:Bool) (U d:List Nat) (k q id:Nat) (S:Store) (hS:sget S id=some (.box (eCells U))) (hU:Lim U) (hd:Lim d) (hq:q<B) (hlen:k+(d.length+1)≤U.length) (hb:U.length≤1000) :
  ∃ w b,call dp 214 [.ar 1 id 0 U.length,eLims nl d .ro,.i .i64 k,.i .u64 q] S=some (.b (decide (b=1)),sset S id (.box (eCells (U.take k++(w++U.drop (k+(d.length+1))))))) ∧
   w.length=d.length+1∧Lim w∧b≤1∧val w+q * val d=val ((U.drop k).take (d.length+1))+B ^ (d.length+1) * b:=by
 have hid:=sget_lt hS
 obtain ⟨r,S',e,w,b,rfl,rfl,h⟩:=f214 (.ar 1 id 0 U.length) (eLims nl d .ro) (.i .i64 k) (.i .u64 q) S (fun r S'=>∃ w b,r = .b (decide (b=1))∧S'=sset S id (.box (eCells (U.take k++(w++U.drop (k+(d.length+1)))))) ∧
   w.length=d.length+1∧Lim w∧b≤1∧val w+q * val d=val ((U.drop k).take (d.length+1))+B ^ (d.length+1) * b) (by
  simp only [s214,len_lims,OX_some]
  refine W_loop (J214 nl U d k q id S) ?_ d.length _ _ ⟨0,U,0,0,.top,.top,by omega,by omega,by decide,by omega,rfl,hU,rfl,rfl,by simp [val],(sset_self hS).symm,rfl⟩
  rintro m fr S' ⟨j,O,c,b,a8,a15,rfl,hj,hc,hb1,lo,hO,ht,hdr,he,rfl,rfl⟩
  rw [←wp_W,e214_0]
  have l0:sget (sset S id (.box (eCells O))) id=some (.box (eCells O)):=sget_sset _ hid
  by_cases hlt:j<d.length
  ·have hx:=dg_lt hO (k+j)
   have hy:=dg_lt hd j
   have hqy:c+q * dg d j<B * B:=by
    have:q * dg d j≤(B-1) * (B-1):=Nat.mul_le_mul (by omega) (by omega)
    simp only [B] at *;omega
   have hBB:B * B=18446744073709551616:=rfl
   have hcq:(c+q * dg d j) / B<B:=by rw [Nat.div_lt_iff_lt_mul B_pos];exact hqy
   have hm:(c+q * dg d j) % B<B:=Nat.mod_lt _ B_pos
   simp only [s214_0,lss_nat,hlt,decide_true,OX_tt,OX_some,WB_true,ia_lims hlt,ld_el1,conv64B hy,mul64 (show q * dg d j<18446744073709551616 by omega),add64 (show c+q * dg d j<18446744073709551616 by omega),add_nat (show k+j<9223372036854775808 by omega),ia_ar (show k+j<U.length by omega),Nat.zero_add,
    ld_cells l0 (show k+j<O.length by omega),conv32m,v243 hx hm hb1,ext_eq,List.getElem?_cons_zero,List.getElem?_cons_succ,st_cells l0 (show k+j<O.length by omega),sset_sset,shr32,inc_nat (show Bd j by unfold Bd;omega),Qseq_normal]
   refine ⟨d.length-(j+1),by omega,j+1,O.set (k+j) _,_,_,a8,.top,rfl,by omega,hcq,borL_le _ _ _,by simpa using lo,lim_set hO (difL_lt _ _ _),?_,?_,?_,rfl,rfl⟩
   ·rw [take_set_ge (by omega)];exact ht
   ·rw [drop_set_lt (by omega)];exact hdr
   ·rw [vt_succ,←Nat.add_assoc,Nat.pow_succ]
    exact red_step he (val_set _ (by omega)) (difL_eq hx hm hb1) rfl (Nat.pow_add _ _ _)
  ·have:j=d.length:=by omega
   subst this
   have hx:=dg_lt hO (k+d.length)
   have hdl:=difL_eq hx hc hb1
   rw [vt_full (Nat.le_refl _)] at he
   have h1:∀ x:Nat,decide (((x:Nat):Int)=1)=decide (x=1):=fun x=>by simp;omega
   simp only [s214_0,lss_nat,hlt,decide_false,OX_ff,WB_false,Qseq_exit,Qblk_same,QS_normal,e214_r0,s214_r0,len_lims,OX_some,add_nat (show k+d.length<9223372036854775808 by omega),ia_ar (show k+d.length<U.length by omega),Nat.zero_add,ld_cells l0 (show k+d.length<O.length by omega),conv32 hc,v243 hx hc hb1,ext_eq,List.getElem?_cons_zero,List.getElem?_cons_succ,
    st_cells l0 (show k+d.length<O.length by omega),sset_sset,bin_eql,h1]
   have ht':(O.set (k+d.length) (difL (dg O (k+d.length)) c b)).take k=U.take k:=by rw [take_set_ge (by omega)];exact ht
   have hd':(O.set (k+d.length) (difL (dg O (k+d.length)) c b)).drop (k+(d.length+1))=U.drop (k+(d.length+1)):=by rw [drop_set_lt (by omega)];exact hdr
   have lo':(O.set (k+d.length) (difL (dg O (k+d.length)) c b)).length=U.length:=by rw [List.length_set];exact lo
   have hO':Lim (O.set (k+d.length) (difL (dg O (k+d.length)) c b)):=lim_set hO (difL_lt _ _ _)
   have hv:=val_set (l:=O) (i:=k+d.length) (difL (dg O (k+d.length)) c b) (by omega)
   have hv2:val (O.set (k+d.length) (difL (dg O (k+d.length)) c b))+B ^ k * (q * val d)=val U+B ^ k * (B ^ (d.length+1) * borL (dg O (k+d.length)) c b):=by
    have e1:=congrArg (B ^ (k+d.length) * ·) hdl
    simp only [Nat.mul_add] at e1 he
    have e2:B ^ k * (B ^ (d.length+1) * borL (dg O (k+d.length)) c b)=B ^ (k+d.length) * (B * borL (dg O (k+d.length)) c b):=by
     rw [←Nat.mul_assoc,←Nat.pow_add,←Nat.mul_assoc,←Nat.pow_succ];rfl
    omega
   have hw:=win_val ht' hd' lo' hlen hv2
   have hc3:=cut3 (O.set (k+d.length) (difL (dg O (k+d.length)) c b)) k (d.length+1)
   rw [ht',hd'] at hc3
   rw [FinK_ret1]
   refine ⟨_,_,rfl,congrArg (fun l=>sset S id (Ent.box (eCells l))) hc3,?_,lim_take _ (lim_drop _ hO'),borL_le _ _ _,hw⟩
   simp;omega)
 exact ⟨w,b,e,h⟩
theorem res_step {P O O' A c y t old U D k:Nat} (h:O+P * c=U+A * D) (hO:O'+P * old=O+P * (t % B)) (ht:t=old+y+c) (hP:P=A * k):O'+P * B * (t / B)=U+A * (D+k * y):=by
 have h1:=Nat.mod_add_div t B
 have h2:=congrArg (P * ·) h1
 simp only [Nat.mul_add] at h2
 have h4:P * t=P * old+P * y+P * c:=by rw [ht,Nat.mul_add,Nat.mul_add]
 have h5:A * (D+k * y)=A * D+P * y:=by rw [hP,Nat.mul_add,Nat.mul_assoc]
 rw [Nat.mul_assoc]
 omega
def J215 (nl:Bool) (U d:List Nat) (k id:Nat) (S:Store):Nat→List D→Store→Prop:=fun m fr S'=>∃ j O c a11,m=d.length-j∧j≤d.length∧c≤1∧List.length O=U.length∧Lim O∧O.take k=U.take k∧O.drop (k+(d.length+1))=U.drop (k+(d.length+1)) ∧
 val O+B ^ (k+j) * c=val U+B ^ k * val (d.take j)∧S'=sset S id (.box (eCells O)) ∧
 fr=mkf 44 [(0,.ar 1 id 0 U.length),(1,eLims nl d .ro),(2,.i .i64 k),(6,.i .u32 c),(9,.i .i64 d.length),(10,.i .i64 j),(11,a11)]
theorem v215 (nl:Bool) (U d:List Nat) (k id:Nat) (S:Store) (hS:sget S id=some (.box (eCells U))) (hU:Lim U) (hd:Lim d) (hlen:k+(d.length+1)≤U.length) (hb:U.length≤1000) :
  ∃ w z r,call dp 215 [.ar 1 id 0 U.length,eLims nl d .ro,.i .i64 k] S=some (r,sset S id (.box (eCells (U.take k++(w++U.drop (k+(d.length+1))))))) ∧
   w.length=d.length+1∧Lim w∧val w+B ^ (d.length+1) * z=val ((U.drop k).take (d.length+1))+val d:=by
 have hid:=sget_lt hS
 obtain ⟨r,S',e,w,z,rfl,h⟩:=f215 (.ar 1 id 0 U.length) (eLims nl d .ro) (.i .i64 k) S (fun r S'=>∃ w z,S'=sset S id (.box (eCells (U.take k++(w++U.drop (k+(d.length+1)))))) ∧
   w.length=d.length+1∧Lim w∧val w+B ^ (d.length+1) * z=val ((U.drop k).take (d.length+1))+val d) (by
  simp only [s215,len_lims,OX_some]
  refine W_loop (J215 nl U d k id S) ?_ d.length _ _ ⟨0,U,0,.top,by omega,by omega,by omega,rfl,hU,rfl,rfl,by simp [val],(sset_self hS).symm,rfl⟩
  rintro m fr S' ⟨j,O,c,a11,rfl,hj,hc,lo,hO,ht,hdr,he,rfl,rfl⟩
  rw [←wp_W,e215_0]
  have l0:sget (sset S id (.box (eCells O))) id=some (.box (eCells O)):=sget_sset _ hid
  by_cases hlt:j<d.length
  ·have hx:=dg_lt hO (k+j)
   have hy:=dg_lt hd j
   simp only [s215_0,lss_nat,hlt,decide_true,OX_tt,OX_some,WB_true,ia_lims hlt,ld_el1,add_nat (show k+j<9223372036854775808 by omega),ia_ar (show k+j<U.length by omega),Nat.zero_add,
    ld_cells l0 (show k+j<O.length by omega),v142 hx hy hc,ext_eq,List.getElem?_cons_zero,List.getElem?_cons_succ,st_cells l0 (show k+j<O.length by omega),sset_sset,inc_nat (show Bd j by unfold Bd;omega),Qseq_normal]
   refine ⟨d.length-(j+1),by omega,j+1,O.set (k+j) _,_,.top,rfl,by omega,?_,by simpa using lo,lim_set hO (Nat.mod_lt _ B_pos),?_,?_,?_,rfl,rfl⟩
   ·simp only [B] at *;omega
   ·rw [take_set_ge (by omega)];exact ht
   ·rw [drop_set_lt (by omega)];exact hdr
   ·rw [vt_succ,←Nat.add_assoc,Nat.pow_succ]
    exact res_step he (val_set _ (by omega)) rfl (Nat.pow_add _ _ _)
  ·have:j=d.length:=by omega
   subst this
   have hx:=dg_lt hO (k+d.length)
   rw [vt_full (Nat.le_refl _)] at he
   have hadd:binD .add .num (.i .u32 (dg O (k+d.length):Nat)) (.i .u32 c)=some (.i .u32 (((dg O (k+d.length)+c) % B:Nat):Int)):=by
    rw [bin_add,←Int.natCast_add,wrapu32m]
   simp only [s215_0,lss_nat,hlt,decide_false,OX_ff,WB_false,Qseq_exit,Qblk_same,QS_normal,e215_r0,s215_r0,len_lims,OX_some,add_nat (show k+d.length<9223372036854775808 by omega),ia_ar (show k+d.length<U.length by omega),Nat.zero_add,ld_cells l0 (show k+d.length<O.length by omega),hadd,
    st_cells l0 (show k+d.length<O.length by omega),sset_sset]
   have ht':(O.set (k+d.length) ((dg O (k+d.length)+c) % B)).take k=U.take k:=by rw [take_set_ge (by omega)];exact ht
   have hd':(O.set (k+d.length) ((dg O (k+d.length)+c) % B)).drop (k+(d.length+1))=U.drop (k+(d.length+1)):=by rw [drop_set_lt (by omega)];exact hdr
   have lo':(O.set (k+d.length) ((dg O (k+d.length)+c) % B)).length=U.length:=by rw [List.length_set];exact lo
   have hO':Lim (O.set (k+d.length) ((dg O (k+d.length)+c) % B)):=lim_set hO (Nat.mod_lt _ B_pos)
   have hv:=val_set (l:=O) (i:=k+d.length) ((dg O (k+d.length)+c) % B) (by omega)
   have hv2:val (O.set (k+d.length) ((dg O (k+d.length)+c) % B))+B ^ k * (B ^ (d.length+1) * ((dg O (k+d.length)+c) / B))=val U+B ^ k * val d:=by
    have h1:=Nat.mod_add_div (dg O (k+d.length)+c) B
    have e1:=congrArg (B ^ (k+d.length) * ·) h1
    simp only [Nat.mul_add] at e1
    have e2:B ^ k * (B ^ (d.length+1) * ((dg O (k+d.length)+c) / B))=B ^ (k+d.length) * (B * ((dg O (k+d.length)+c) / B)):=by
     rw [←Nat.mul_assoc,←Nat.pow_add,←Nat.mul_assoc,←Nat.pow_succ];rfl
    omega
   have hw:=win_val ht' hd' lo' hlen hv2
   have hc3:=cut3 (O.set (k+d.length) ((dg O (k+d.length)+c) % B)) k (d.length+1)
   rw [ht',hd'] at hc3
   simp only [FinK,finR]
   refine ⟨_,_,congrArg (fun l=>sset S id (Ent.box (eCells l))) hc3,?_,lim_take _ (lim_drop _ hO'),hw⟩
   simp;omega)
 exact ⟨w,z,r,e,h⟩
end Go.Proofs.YtjniafcnjbbomaaGreatDoor.DE.V
