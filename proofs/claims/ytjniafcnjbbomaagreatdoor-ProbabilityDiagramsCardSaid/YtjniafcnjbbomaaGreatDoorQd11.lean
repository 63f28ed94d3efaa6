/-
  SEVERAL TEXTS IN ONE (joined by tools/asm3.py of this repository): Gj, Fc, Gk, Gl, Gm, Fd, Gn, Go, Gp, Fe, Gq, Ha, Gr.
-/
import Derived.Test.YtjniafcnjbbomaaGreatDoorQd5
import Derived.Test.YtjniafcnjbbomaaGreatDoorQd7
import Derived.Test.YtjniafcnjbbomaaGreatDoorQd8
import Derived.Test.YtjniafcnjbbomaaGreatDoorQd10
import Derived.KernelRfl
import Derived.Test.YtjniafcnjbbomaaGreatDoorRows
import Derived.ProofKit
import Derived.Deep.Slices
import Derived.Deep.Strs
set_option linter.unusedVariables false
set_option linter.unusedSimpArgs false
namespace Go.Proofs.YtjniafcnjbbomaaGreatDoor.DE.V
open Go NL
theorem v135n (nl nl':Bool) (x y:Nat) (hx:Lt128 x) (hy:Lt128 y) (hn:NF nl (ofN x)) (h0:y≠0) :
  ∃ n1 n2,isoCall (call dp) 135 [eLims nl (ofN x) .ro,eLims nl' (ofN y) .ro]=some (.tup [eLims n1 (ofN (x / y)) .ro,eLims n2 (ofN (x % y)) .ro,.i .i64 0])∧NF n1 (ofN (x / y))∧NF n2 (ofN (x % y)):=by
 have h:=v135 nl nl' (ofN x) (ofN y) (vn_ofN.2 hx) (vn_ofN.2 hy) (lim_ofN x) (lim_ofN y) hn (fun e=>h0 (ofN_nil.1 e))
 rw [val_ofN,val_ofN] at h
 exact h
def J107 (g:Nat):Nat→List D→Store→Prop:=fun y fr S=>∃ x n1 n2 a4 a16,Lt128 x∧Lt128 y∧Nat.gcd x y=g∧NF n1 (ofN x)∧NF n2 (ofN y)∧S=[]∧fr=mkf 27 [(0,eLims n1 (ofN x) .ro),(1,eLims n2 (ofN y) .ro),(4,a4),(16,a16)]
theorem v107 (nl nl':Bool) (x y:Nat) (hx:Lt128 x) (hy:Lt128 y) (hn:NF nl (ofN x)) (hn':NF nl' (ofN y)) :
  ∃ n,isoCall (call dp) 107 [eLims nl (ofN x) .ro,eLims nl' (ofN y) .ro]=some (eLims n (ofN (Nat.gcd x y)) .ro)∧NF n (ofN (Nat.gcd x y)):=by
 have l1:=(vn_ofN.2 hx).1
 have l2:=(vn_ofN.2 hy).1
 obtain ⟨r,e,n,rfl,f⟩:=j107 (eLims nl (ofN x) .ro) (eLims nl' (ofN y) .ro) (fun d=>∃ n,d=eLims n (ofN (Nat.gcd x y)) .ro∧NF n (ofN (Nat.gcd x y))) (by simp [noRefL]) (by rintro _ ⟨n,rfl,_⟩;simp) (by
  simp only [s107,strip_lims,v143 nl _ (vn_ofN.2 hx),v143 nl' _ (vn_ofN.2 hy),v110 nl _ hn (by omega),v110 nl' _ hn' (by omega),OX_some]
  generalize hR:QS (call dp) c107_r0 _=R
  refine W_loop (J107 (Nat.gcd x y)) ?_ y _ _ ⟨x,nl,nl',.top,.top,hx,hy,rfl,hn,hn',rfl,rfl⟩
  rintro y' fr S ⟨x',n1,n2,a4,a16,hx',hy',hg,f1,f2,rfl,rfl⟩
  rw [←wp_W,e107_0]
  by_cases h0:y'=0
  ·subst h0
   have hgt:binD .gtr .num (.i .i64 ((ofN 0).length:Int)) (.i .i64 0)=some (.b false):=by rw [ofN_zero,bin_gtr];rfl
   simp only [s107_0,len_lims,OX_some,hgt,WB_false,Qseq_exit,Qblk_same]
   rw [←hR]
   rw [Nat.gcd_zero_right] at hg
   subst hg
   simp only [QS_normal,e107_r0,s107_r0]
   simp only [FinK,finR]
   exact ⟨n1,rfl,f1⟩
  ·have hne:ofN y'≠[]:=fun e=>h0 (ofN_nil.1 e)
   have hlen:0<(ofN y').length:=List.length_pos_iff.2 hne
   have hgt:binD .gtr .num (.i .i64 ((ofN y').length:Int)) (.i .i64 0)=some (.b true):=by rw [bin_gtr];simp;omega
   obtain ⟨m1,m2,e,g1,g2⟩:=v135n n1 n2 x' y' hx' hy' f1 h0
   have hlt:x' % y'<y':=Nat.mod_lt _ (by omega)
   simp only [s107_0,len_lims,OX_some,hgt,WB_true,e,ext_eq,List.getElem?_cons_zero,List.getElem?_cons_succ,Qseq_normal]
   refine ⟨x' % y',hlt,y',n2,m2,a4,.top,hy',Nat.lt_trans hlt hy',?_,f2,g2,rfl,rfl⟩
   rw [Nat.gcd_comm y',←hg,Nat.gcd_comm x',Nat.gcd_rec y' x'])
 exact ⟨n,e,f⟩
end Go.Proofs.YtjniafcnjbbomaaGreatDoor.DE.V

namespace Go.Proofs.YtjniafcnjbbomaaGreatDoor.DE
open Go
def s108 (cf:CallF) (a0:D) (S:Store) (Post:D→Store→Prop):Prop:=
 OX (lenD false a0) fun x1=>
 OX (binD .leq .num x1 (.i .i64 128)) fun x2=>
 OX (gsel x2 true (some a0)) fun x3=>
 OX (gsel x2 true (lenD false x3)) fun x4=>
 OX (gsel x2 true (binD .eql .num x4 (.i .i64 0))) fun x5=>
 OX (gsel x2 true (some x5)) fun x6=>
 OX (gsel x6 false (some a0)) fun x7=>
 OX (gsel x6 false (some a0)) fun x8=>
 OX (gsel x6 false (lenD false x8)) fun x9=>
 OX (gsel x6 false (binD .sub .num x9 (.i .i64 1))) fun x10=>
 OX (gsel x6 false (iaD 1 x7 x10)) fun x11=>
 OX (gsel x6 false (ldD S 1 false x11)) fun x12=>
 OX (gsel x6 false (binD .neq .num x12 (.i .u32 0))) fun x13=>
 OX (gsel x2 true (pickD x6 (.b true) x13)) fun x14=>
 OX (pickD x2 x14 (.b false)) fun x15=>
 Post x15 S
theorem e108 (cf:CallF) (a0:D) (S:Store) (Post:D→Store→Prop):wp cf c108 (frame0 d108 [a0]) S (FinK d108.res Post)=s108 cf a0 S Post:=wpS_of (by kernel_rfl)
theorem i108 (a0:D) (r:D) (ha:noRefL (stripL [a0])=true) (hr:noRef r=true) (h:s108 (call dp) (strip a0) [] fun d _=>stripT d=r):isoCall (call dp) 108 [a0]=some r:=iso_s (f:=d108) rfl ⟨rfl,by decide⟩ ha hr (by rw [←e108] at h;exact h)
def s138_r0 (cf:CallF) (a0:D) (a2:D) (a14:D) (S:Store) (Q:Ex→List D→Store→Prop):Prop:=
 Q .ret (mkf 21 [(0,.top),(2,a0),(14,.top)]) S
theorem e138_r0 (cf:CallF) (a0:D) (a2:D) (a14:D) (S:Store) (Q:Ex→List D→Store→Prop):wp cf c138_r0 (mkf 21 [(0,a0),(2,a2),(14,a14)]) S Q=s138_r0 cf a0 a2 a14 S Q:=wpS_of (by kernel_rfl)
def s138_0 (cf:CallF) (a0:D) (a2:D) (a14:D) (S:Store) (Q:Ex→List D→Store→Prop):Prop:=
 OX (lenD false a0) fun x1=>
 OX (binD .gtr .num x1 (.i .i64 0)) fun x2=>
 OX (gsel x2 true (some a0)) fun x3=>
 OX (gsel x2 true (some a0)) fun x4=>
 OX (gsel x2 true (lenD false x4)) fun x5=>
 OX (gsel x2 true (binD .sub .num x5 (.i .i64 1))) fun x6=>
 OX (gsel x2 true (iaD 1 x3 x6)) fun x7=>
 OX (gsel x2 true (ldD S 1 false x7)) fun x8=>
 OX (gsel x2 true (binD .eql .num x8 (.i .u32 0))) fun x9=>
 OX (pickD x2 x9 (.b false)) fun x10=>
 WB x10
 (OX (lenD false a0) fun x11=>
 OX (binD .sub .num x11 (.i .i64 1)) fun x12=>
 OX (slcD 1 a0 none (some x12)) fun x13=>
 Q .normal (mkf 21 [(0,x13),(2,a2),(14,.top)]) S)
 (Q (.exit 0) (mkf 21 [(0,a0),(2,a2),(14,x10)]) S)
theorem e138_0 (cf:CallF) (a0:D) (a2:D) (a14:D) (S:Store) (Q:Ex→List D→Store→Prop):wp cf c138_0 (fkill (mkf 21 [(0,a0),(2,a2),(14,a14)]) []) S Q=s138_0 cf a0 a2 a14 S Q:=wpS_of (by kernel_rfl)
def s138 (cf:CallF) (a0:D) (S:Store) (Post:D→Store→Prop):Prop:=
 W cf (.loop [] c138_0) (mkf 21 [(0,a0),(2,.top),(14,.top)]) S (Qblk 0 (QS cf c138_r0 (FinK [.t 2] Post)))
theorem e138 (cf:CallF) (a0:D) (S:Store) (Post:D→Store→Prop):wp cf c138 (frame0 d138 [a0]) S (FinK d138.res Post)=s138 cf a0 S Post:=wpS_of (by kernel_rfl)
theorem i138 (a0:D) (r:D) (ha:noRefL (stripL [a0])=true) (hr:noRef r=true) (h:s138 (call dp) (strip a0) [] fun d _=>stripT d=r):isoCall (call dp) 138 [a0]=some r:=iso_s (f:=d138) rfl ⟨rfl,by decide⟩ ha hr (by rw [←e138] at h;exact h)
def s163 (cf:CallF) (a0:D) (a1:D) (S:Store) (Post:D→Store→Prop):Prop:=
 OX (lenD false a0) fun x1=>
 OX (binD .lss .num a1 x1) fun x2=>
 WB x2
 (OX (iaD 1 a0 a1) fun x3=>
 OX (ldD S 1 false x3) fun x4=>
 OX (convD .u64 x4) fun x5=>
 Post x5 S)
 (Post (.i .u64 0) S)
theorem e163 (cf:CallF) (a0:D) (a1:D) (S:Store) (Post:D→Store→Prop):wp cf c163 (frame0 d163 [a0,a1]) S (FinK d163.res Post)=s163 cf a0 a1 S Post:=wpS_of (by kernel_rfl)
theorem i163 (a0:D) (a1:D) (r:D) (ha:noRefL (stripL [a0,a1])=true) (hr:noRef r=true) (h:s163 (call dp) (strip a0) (strip a1) [] fun d _=>stripT d=r):isoCall (call dp) 163 [a0,a1]=some r:=iso_s (f:=d163) rfl ⟨rfl,by decide⟩ ha hr (by rw [←e163] at h;exact h)
def s101_r0 (cf:CallF) (a0:D) (a1:D) (a4:D) (a5:D) (a20:D) (S:Store) (Q:Ex→List D→Store→Prop):Prop:=
 Q .ret (mkf 41 [(0,.top),(1,.top),(4,(.i .i64 0)),(5,.top),(20,.top)]) S
theorem e101_r0 (cf:CallF) (a0:D) (a1:D) (a4:D) (a5:D) (a20:D) (S:Store) (Q:Ex→List D→Store→Prop):wp cf c101_r0 (mkf 41 [(0,a0),(1,a1),(4,a4),(5,a5),(20,a20)]) S Q=s101_r0 cf a0 a1 a4 a5 a20 S Q:=wpS_of (by kernel_rfl)
def s101_0 (cf:CallF) (a0:D) (a1:D) (a4:D) (a5:D) (a20:D) (S:Store) (Q:Ex→List D→Store→Prop):Prop:=
 OX (binD .geq .num a5 (.i .i64 0)) fun x1=>
 WB x1
 (OX (iaD 1 a0 a5) fun x2=>
 OX (ldD S 1 false x2) fun x3=>
 OX (iaD 1 a1 a5) fun x4=>
 OX (ldD S 1 false x4) fun x5=>
 OX (binD .neq .num x3 x5) fun x6=>
 WB x6
 (OX (iaD 1 a0 a5) fun x7=>
 OX (ldD S 1 false x7) fun x8=>
 OX (iaD 1 a1 a5) fun x9=>
 OX (ldD S 1 false x9) fun x10=>
 OX (binD .lss .num x8 x10) fun x11=>
 WB x11
 (Q .ret (mkf 41 [(0,.top),(1,.top),(4,(.i .i64 (-1))),(5,.top),(20,.top)]) S)
 (Q .ret (mkf 41 [(0,.top),(1,.top),(4,(.i .i64 1)),(5,.top),(20,.top)]) S))
 (OX (binD .sub .num a5 (.i .i64 1)) fun x12=>
 Q .normal (mkf 41 [(0,a0),(1,a1),(4,a4),(5,x12),(20,.top)]) S))
 (Q (.exit 0) (mkf 41 [(0,a0),(1,a1),(4,a4),(5,a5),(20,x1)]) S)
theorem e101_0 (cf:CallF) (a0:D) (a1:D) (a4:D) (a5:D) (a20:D) (S:Store) (Q:Ex→List D→Store→Prop):wp cf c101_0 (fkill (mkf 41 [(0,a0),(1,a1),(4,a4),(5,a5),(20,a20)]) []) S Q=s101_0 cf a0 a1 a4 a5 a20 S Q:=wpS_of (by kernel_rfl)
def s101 (cf:CallF) (a0:D) (a1:D) (S:Store) (Post:D→Store→Prop):Prop:=
 OX (lenD false a0) fun x13=>
 OX (lenD false a1) fun x14=>
 OX (binD .neq .num x13 x14) fun x15=>
 WB x15
 (OX (lenD false a0) fun x16=>
 OX (lenD false a1) fun x17=>
 OX (binD .lss .num x16 x17) fun x18=>
 WB x18
 (Post (.i .i64 (-1)) S)
 (Post (.i .i64 1) S))
 (OX (lenD false a0) fun x19=>
 OX (binD .sub .num x19 (.i .i64 1)) fun x20=>
 W cf (.loop [] c101_0) (mkf 41 [(0,a0),(1,a1),(4,.top),(5,x20),(20,.top)]) S (Qblk 0 (QS cf c101_r0 (FinK [.t 4] Post))))
theorem e101 (cf:CallF) (a0:D) (a1:D) (S:Store) (Post:D→Store→Prop):wp cf c101 (frame0 d101 [a0,a1]) S (FinK d101.res Post)=s101 cf a0 a1 S Post:=wpS_of (by kernel_rfl)
theorem i101 (a0:D) (a1:D) (r:D) (ha:noRefL (stripL [a0,a1])=true) (hr:noRef r=true) (h:s101 (call dp) (strip a0) (strip a1) [] fun d _=>stripT d=r):isoCall (call dp) 101 [a0,a1]=some r:=iso_s (f:=d101) rfl ⟨rfl,by decide⟩ ha hr (by rw [←e101] at h;exact h)
def s162_r0 (cf:CallF) (a0:D) (a1:D) (a4:D) (a5:D) (a6:D) (a7:D) (a23:D) (S:Store) (Q:Ex→List D→Store→Prop):Prop:=
 Q .ret (mkf 44 [(0,.top),(1,.top),(4,a5),(5,.top),(6,.top),(7,.top),(23,.top)]) S
theorem e162_r0 (cf:CallF) (a0:D) (a1:D) (a4:D) (a5:D) (a6:D) (a7:D) (a23:D) (S:Store) (Q:Ex→List D→Store→Prop):wp cf c162_r0 (mkf 44 [(0,a0),(1,a1),(4,a4),(5,a5),(6,a6),(7,a7),(23,a23)]) S Q=s162_r0 cf a0 a1 a4 a5 a6 a7 a23 S Q:=wpS_of (by kernel_rfl)
def s162_0 (cf:CallF) (a0:D) (a1:D) (a4:D) (a5:D) (a6:D) (a7:D) (a23:D) (S:Store) (Q:Ex→List D→Store→Prop):Prop:=
 OX (lenD false a0) fun x1=>
 OX (binD .lss .num a7 x1) fun x2=>
 OX (gsel x2 false (some a7)) fun x3=>
 OX (gsel x2 false (some a1)) fun x4=>
 OX (gsel x2 false (lenD false x4)) fun x5=>
 OX (gsel x2 false (binD .lss .num x3 x5)) fun x6=>
 OX (pickD x2 (.b true) x6) fun x7=>
 OX (gsel x7 false (some a6)) fun x8=>
 OX (gsel x7 false (binD .gtr .num x8 (.i .u64 0))) fun x9=>
 OX (pickD x7 (.b true) x9) fun x10=>
 WB x10
 (OX (isoCall cf 163 [a0,a7]) fun x11=>
 OX (isoCall cf 163 [a1,a7]) fun x12=>
 OX (binD .add .num x11 x12) fun x13=>
 OX (binD .add .num x13 a6) fun x14=>
 OX (binD .rem .num x14 (.i .u64 4294967296)) fun x15=>
 OX (convD .u32 x15) fun x16=>
 OX (cellsV 1 false [x16]) fun x17=>
 OX (appD 1 false a5 (.sl 1 false x17 .ro) S) fun p19=>
 OX (binD .quo .num x14 (.i .u64 4294967296)) fun x20=>
 OX (binD .add .num a7 (.i .i64 1)) fun x21=>
 Q .normal (mkf 44 [(0,a0),(1,a1),(4,a4),(5,p19.1),(6,x20),(7,x21),(23,.top)]) p19.2)
 (Q (.exit 0) (mkf 44 [(0,a0),(1,a1),(4,a4),(5,a5),(6,a6),(7,a7),(23,x10)]) S)
theorem e162_0 (cf:CallF) (a0:D) (a1:D) (a4:D) (a5:D) (a6:D) (a7:D) (a23:D) (S:Store) (Q:Ex→List D→Store→Prop):wp cf c162_0 (fkill (mkf 44 [(0,a0),(1,a1),(4,a4),(5,a5),(6,a6),(7,a7),(23,a23)]) []) S Q=s162_0 cf a0 a1 a4 a5 a6 a7 a23 S Q:=wpS_of (by kernel_rfl)
def s162 (cf:CallF) (a0:D) (a1:D) (S:Store) (Post:D→Store→Prop):Prop:=
 OX (cellsV 1 false []) fun x22=>
 W cf (.loop [] c162_0) (mkf 44 [(0,a0),(1,a1),(4,.top),(5,(bslO 1 x22 S).1),(6,(.i .u64 0)),(7,(.i .i64 0)),(23,.top)]) (bslO 1 x22 S).2 (Qblk 0 (QS cf c162_r0 (FinK [.t 4] Post)))
theorem e162 (cf:CallF) (a0:D) (a1:D) (S:Store) (Post:D→Store→Prop):wp cf c162 (frame0 d162 [a0,a1]) S (FinK d162.res Post)=s162 cf a0 a1 S Post:=wpS_of (by kernel_rfl)
theorem i162 (a0:D) (a1:D) (r:D) (ha:noRefL (stripL [a0,a1])=true) (hr:noRef r=true) (h:s162 (call dp) (strip a0) (strip a1) [] fun d _=>stripT d=r):isoCall (call dp) 162 [a0,a1]=some r:=iso_s (f:=d162) rfl ⟨rfl,by decide⟩ ha hr (by rw [←e162] at h;exact h)
def s102_r0 (cf:CallF) (a0:D) (a1:D) (a4:D) (a5:D) (a6:D) (a7:D) (a14:D) (S:Store) (Q:Ex→List D→Store→Prop):Prop:=
 OX (isoCall cf 138 [a5]) fun x1=>
 Q .ret (mkf 39 [(0,.top),(1,.top),(4,x1),(5,.top),(6,.top),(7,.top),(14,.top)]) S
theorem e102_r0 (cf:CallF) (a0:D) (a1:D) (a4:D) (a5:D) (a6:D) (a7:D) (a14:D) (S:Store) (Q:Ex→List D→Store→Prop):wp cf c102_r0 (mkf 39 [(0,a0),(1,a1),(4,a4),(5,a5),(6,a6),(7,a7),(14,a14)]) S Q=s102_r0 cf a0 a1 a4 a5 a6 a7 a14 S Q:=wpS_of (by kernel_rfl)
def s102_0 (cf:CallF) (a0:D) (a1:D) (a4:D) (a5:D) (a6:D) (a7:D) (a14:D) (S:Store) (Q:Ex→List D→Store→Prop):Prop:=
 OX (lenD false a0) fun x2=>
 OX (binD .lss .num a7 x2) fun x3=>
 WB x3
 (OX (isoCall cf 163 [a0,a7]) fun x4=>
 OX (isoCall cf 163 [a1,a7]) fun x5=>
 OX (binD .add .num x5 a6) fun x6=>
 OX (binD .lss .num x4 x6) fun x7=>
 jn (fun (y9:D) (y10:D) (y11:D) (y12:D) (y13:D) (y14:D) (y15:D) (y16:D) (y17:D) (S18:Store)=>
 OX (binD .sub .num y15 y16) fun x19=>
 OX (convD .u32 x19) fun x20=>
 OX (cellsV 1 false [x20]) fun x21=>
 OX (appD 1 false y12 (.sl 1 false x21 .ro) S18) fun p23=>
 OX (binD .add .num y14 (.i .i64 1)) fun x24=>
 Q .normal (mkf 39 [(0,y9),(1,y10),(4,y11),(5,p23.1),(6,y13),(7,x24),(14,.top)]) p23.2) fun k8=>
 WB x7
 (OX (binD .add .num x4 (.i .u64 4294967296)) fun x25=>
 k8 a0 a1 a4 a5 (.i .u64 1) a7 x25 x6 D.top S)
 (k8 a0 a1 a4 a5 (.i .u64 0) a7 x4 x6 x7 S))
 (Q (.exit 0) (mkf 39 [(0,a0),(1,a1),(4,a4),(5,a5),(6,a6),(7,a7),(14,x3)]) S)
theorem e102_0 (cf:CallF) (a0:D) (a1:D) (a4:D) (a5:D) (a6:D) (a7:D) (a14:D) (S:Store) (Q:Ex→List D→Store→Prop):wp cf c102_0 (fkill (mkf 39 [(0,a0),(1,a1),(4,a4),(5,a5),(6,a6),(7,a7),(14,a14)]) []) S Q=s102_0 cf a0 a1 a4 a5 a6 a7 a14 S Q:=wpS_of (by kernel_rfl)
def s102 (cf:CallF) (a0:D) (a1:D) (S:Store) (Post:D→Store→Prop):Prop:=
 OX (cellsV 1 false []) fun x26=>
 W cf (.loop [] c102_0) (mkf 39 [(0,a0),(1,a1),(4,.top),(5,(bslO 1 x26 S).1),(6,(.i .u64 0)),(7,(.i .i64 0)),(14,.top)]) (bslO 1 x26 S).2 (Qblk 0 (QS cf c102_r0 (FinK [.t 4] Post)))
theorem e102 (cf:CallF) (a0:D) (a1:D) (S:Store) (Post:D→Store→Prop):wp cf c102 (frame0 d102 [a0,a1]) S (FinK d102.res Post)=s102 cf a0 a1 S Post:=wpS_of (by kernel_rfl)
theorem i102 (a0:D) (a1:D) (r:D) (ha:noRefL (stripL [a0,a1])=true) (hr:noRef r=true) (h:s102 (call dp) (strip a0) (strip a1) [] fun d _=>stripT d=r):isoCall (call dp) 102 [a0,a1]=some r:=iso_s (f:=d102) rfl ⟨rfl,by decide⟩ ha hr (by rw [←e102] at h;exact h)
def s73_r0 (cf:CallF) (a0:D) (a1:D) (a4:D) (a5:D) (a6:D) (a7:D) (a8:D) (a19:D) (a25:D) (S:Store) (Q:Ex→List D→Store→Prop):Prop:=
 OX (lenD false a1) fun x1=>
 OX (binD .add .num a6 x1) fun x2=>
 OX (convD .u32 a7) fun x3=>
 OX (iaD 1 a5 x2) fun x4=>
 OX (stD S 1 false x4 x3) fun S6=>
 Q .normal (mkf 69 [(0,a0),(1,a1),(4,a4),(5,a5),(6,a6),(7,.top),(8,.top),(19,a19),(25,.top)]) S6
theorem e73_r0 (cf:CallF) (a0:D) (a1:D) (a4:D) (a5:D) (a6:D) (a7:D) (a8:D) (a19:D) (a25:D) (S:Store) (Q:Ex→List D→Store→Prop):wp cf c73_r0 (mkf 69 [(0,a0),(1,a1),(4,a4),(5,a5),(6,a6),(7,a7),(8,a8),(19,a19),(25,a25)]) S Q=s73_r0 cf a0 a1 a4 a5 a6 a7 a8 a19 a25 S Q:=wpS_of (by kernel_rfl)
def s73_r1 (cf:CallF) (a0:D) (a1:D) (a4:D) (a5:D) (a6:D) (a7:D) (a8:D) (a19:D) (a25:D) (S:Store) (Q:Ex→List D→Store→Prop):Prop:=
 OX (binD .add .num a6 (.i .i64 1)) fun x7=>
 Q .normal (mkf 69 [(0,a0),(1,a1),(4,a4),(5,a5),(6,x7),(7,a7),(8,a8),(19,a19),(25,a25)]) S
theorem e73_r1 (cf:CallF) (a0:D) (a1:D) (a4:D) (a5:D) (a6:D) (a7:D) (a8:D) (a19:D) (a25:D) (S:Store) (Q:Ex→List D→Store→Prop):wp cf c73_r1 (mkf 69 [(0,a0),(1,a1),(4,a4),(5,a5),(6,a6),(7,a7),(8,a8),(19,a19),(25,a25)]) S Q=s73_r1 cf a0 a1 a4 a5 a6 a7 a8 a19 a25 S Q:=wpS_of (by kernel_rfl)
def s73_0 (cf:CallF) (a0:D) (a1:D) (a4:D) (a5:D) (a6:D) (a7:D) (a8:D) (a19:D) (a25:D) (S:Store) (Q:Ex→List D→Store→Prop):Prop:=
 OX (lenD false a1) fun x8=>
 OX (binD .lss .num a8 x8) fun x9=>
 WB x9
 (OX (iaD 1 a0 a6) fun x10=>
 OX (ldD S 1 false x10) fun x11=>
 OX (convD .u64 x11) fun x12=>
 OX (iaD 1 a1 a8) fun x13=>
 OX (ldD S 1 false x13) fun x14=>
 OX (convD .u64 x14) fun x15=>
 OX (binD .mul .num x12 x15) fun x16=>
 OX (binD .add .num a6 a8) fun x17=>
 OX (iaD 1 a5 x17) fun x18=>
 OX (ldD S 1 false x18) fun x19=>
 OX (convD .u64 x19) fun x20=>
 OX (binD .add .num x16 x20) fun x21=>
 OX (binD .add .num x21 a7) fun x22=>
 OX (binD .add .num a6 a8) fun x23=>
 OX (binD .rem .num x22 (.i .u64 4294967296)) fun x24=>
 OX (convD .u32 x24) fun x25=>
 OX (iaD 1 a5 x23) fun x26=>
 OX (stD S 1 false x26 x25) fun S28=>
 OX (binD .quo .num x22 (.i .u64 4294967296)) fun x29=>
 OX (binD .add .num a8 (.i .i64 1)) fun x30=>
 Q .normal (mkf 69 [(0,a0),(1,a1),(4,a4),(5,a5),(6,a6),(7,x29),(8,x30),(19,a19),(25,.top)]) S28)
 (Q (.exit 2) (mkf 69 [(0,a0),(1,a1),(4,a4),(5,a5),(6,a6),(7,a7),(8,a8),(19,a19),(25,x9)]) S)
theorem e73_0 (cf:CallF) (a0:D) (a1:D) (a4:D) (a5:D) (a6:D) (a7:D) (a8:D) (a19:D) (a25:D) (S:Store) (Q:Ex→List D→Store→Prop):wp cf c73_0 (fkill (mkf 69 [(0,a0),(1,a1),(4,a4),(5,a5),(6,a6),(7,a7),(8,a8),(19,a19),(25,a25)]) []) S Q=s73_0 cf a0 a1 a4 a5 a6 a7 a8 a19 a25 S Q:=wpS_of (by kernel_rfl)
def s73_r2 (cf:CallF) (a0:D) (a1:D) (a4:D) (a5:D) (a6:D) (a7:D) (a8:D) (a19:D) (a25:D) (S:Store) (Q:Ex→List D→Store→Prop):Prop:=
 OX (fzD a5 S) fun p31=>
 OX (isoCall cf 138 [p31.1]) fun x32=>
 Q .ret (mkf 69 [(0,.top),(1,.top),(4,x32),(5,.top),(6,.top),(7,a7),(8,a8),(19,.top),(25,a25)]) p31.2
theorem e73_r2 (cf:CallF) (a0:D) (a1:D) (a4:D) (a5:D) (a6:D) (a7:D) (a8:D) (a19:D) (a25:D) (S:Store) (Q:Ex→List D→Store→Prop):wp cf c73_r2 (mkf 69 [(0,a0),(1,a1),(4,a4),(5,a5),(6,a6),(7,a7),(8,a8),(19,a19),(25,a25)]) S Q=s73_r2 cf a0 a1 a4 a5 a6 a7 a8 a19 a25 S Q:=wpS_of (by kernel_rfl)
def s73_1 (cf:CallF) (a0:D) (a1:D) (a4:D) (a5:D) (a6:D) (a7:D) (a8:D) (a19:D) (a25:D) (S:Store) (Q:Ex→List D→Store→Prop):Prop:=
 OX (lenD false a0) fun x33=>
 OX (binD .lss .num a6 x33) fun x34=>
 WB x34
 (W cf (.loop [] c73_0) (mkf 69 [(0,a0),(1,a1),(4,a4),(5,a5),(6,a6),(7,(.i .u64 0)),(8,(.i .i64 0)),(19,.top),(25,a25)]) S (Qblk 2 (QS cf c73_r0 (Qblk 1 (QS cf c73_r1 Q)))))
 (Q (.exit 0) (mkf 69 [(0,a0),(1,a1),(4,a4),(5,a5),(6,a6),(7,a7),(8,a8),(19,x34),(25,a25)]) S)
theorem e73_1 (cf:CallF) (a0:D) (a1:D) (a4:D) (a5:D) (a6:D) (a7:D) (a8:D) (a19:D) (a25:D) (S:Store) (Q:Ex→List D→Store→Prop):wp cf c73_1 (fkill (mkf 69 [(0,a0),(1,a1),(4,a4),(5,a5),(6,a6),(7,a7),(8,a8),(19,a19),(25,a25)]) []) S Q=s73_1 cf a0 a1 a4 a5 a6 a7 a8 a19 a25 S Q:=wpS_of (by kernel_rfl)
def s73 (cf:CallF) (a0:D) (a1:D) (S:Store) (Post:D→Store→Prop):Prop:=
 OX (lenD false a0) fun x35=>
 OX (lenD false a1) fun x36=>
 OX (binD .add .num x35 x36) fun x37=>
 OX (mkslV 1 true [.i .u32 0] S x37) fun p39=>
 W cf (.loop [] c73_1) (mkf 69 [(0,a0),(1,a1),(4,.top),(5,p39.1),(6,(.i .i64 0)),(7,.top),(8,.top),(19,.top),(25,.top)]) p39.2 (Qblk 0 (QS cf c73_r2 (FinK [.t 4] Post)))
theorem e73 (cf:CallF) (a0:D) (a1:D) (S:Store) (Post:D→Store→Prop):wp cf c73 (frame0 d73 [a0,a1]) S (FinK d73.res Post)=s73 cf a0 a1 S Post:=wpS_of (by kernel_rfl)
theorem i73 (a0:D) (a1:D) (r:D) (ha:noRefL (stripL [a0,a1])=true) (hr:noRef r=true) (h:s73 (call dp) (strip a0) (strip a1) [] fun d _=>stripT d=r):isoCall (call dp) 73 [a0,a1]=some r:=iso_s (f:=d73) rfl ⟨rfl,by decide⟩ ha hr (by rw [←e73] at h;exact h)
def s164_r0 (cf:CallF) (a0:D) (a1:D) (a4:D) (a5:D) (a6:D) (a7:D) (a8:D) (a18:D) (S:Store) (Q:Ex→List D→Store→Prop):Prop:=
 OX (fzD a6 S) fun p1=>
 OX (isoCall cf 138 [p1.1]) fun x2=>
 Q .ret (mkf 60 [(0,.top),(1,.top),(4,x2),(5,a7),(6,.top),(7,.top),(8,.top),(18,.top)]) p1.2
theorem e164_r0 (cf:CallF) (a0:D) (a1:D) (a4:D) (a5:D) (a6:D) (a7:D) (a8:D) (a18:D) (S:Store) (Q:Ex→List D→Store→Prop):wp cf c164_r0 (mkf 60 [(0,a0),(1,a1),(4,a4),(5,a5),(6,a6),(7,a7),(8,a8),(18,a18)]) S Q=s164_r0 cf a0 a1 a4 a5 a6 a7 a8 a18 S Q:=wpS_of (by kernel_rfl)
def s164_0 (cf:CallF) (a0:D) (a1:D) (a4:D) (a5:D) (a6:D) (a7:D) (a8:D) (a18:D) (S:Store) (Q:Ex→List D→Store→Prop):Prop:=
 OX (binD .geq .num a8 (.i .i64 0)) fun x3=>
 WB x3
 (OX (isoCall cf 162 [a7,a7]) fun x4=>
 OX (binD .quo .num a8 (.i .i64 32)) fun x5=>
 OX (iaD 1 a0 x5) fun x6=>
 OX (ldD S 1 false x6) fun x7=>
 OX (binD .rem .num a8 (.i .i64 32)) fun x8=>
 OX (binD .shr .num x7 x8) fun x9=>
 OX (binD .rem .num x9 (.i .u32 2)) fun x10=>
 OX (binD .eql .num x10 (.i .u32 1)) fun x11=>
 jn (fun (y13:D) (y14:D) (y15:D) (y16:D) (y17:D) (y18:D) (y19:D) (y20:D) (S21:Store)=>
 OX (isoCall cf 101 [y18,y14]) fun x22=>
 OX (binD .geq .num x22 (.i .i64 0)) fun x23=>
 jn (fun (y25:D) (y26:D) (y27:D) (y28:D) (y29:D) (y30:D) (y31:D) (y32:D) (S33:Store)=>
 OX (binD .sub .num y31 (.i .i64 1)) fun x34=>
 Q .normal (mkf 60 [(0,y25),(1,y26),(4,y27),(5,y28),(6,y29),(7,y30),(8,x34),(18,.top)]) S33) fun k24=>
 WB x23
 (OX (isoCall cf 102 [y18,y14]) fun x35=>
 OX (binD .quo .num y19 (.i .i64 32)) fun x36=>
 OX (binD .quo .num y19 (.i .i64 32)) fun x37=>
 OX (iaD 1 y17 x37) fun x38=>
 OX (ldD S21 1 false x38) fun x39=>
 OX (binD .rem .num y19 (.i .i64 32)) fun x40=>
 OX (binD .shl .num (.i .u32 1) x40) fun x41=>
 OX (binD .add .num x39 x41) fun x42=>
 OX (iaD 1 y17 x36) fun x43=>
 OX (stD S21 1 false x43 x42) fun S45=>
 k24 y13 y14 y15 y16 y17 x35 y19 D.top S45)
 (k24 y13 y14 y15 y16 y17 y18 y19 x23 S21)) fun k12=>
 WB x11
 (OX (cellsV 1 false [(.i .u32 1)]) fun x46=>
 OX (isoCall cf 162 [x4,(.sl 1 false x46 .ro)]) fun x47=>
 k12 a0 a1 a4 a5 a6 x47 a8 D.top S)
 (k12 a0 a1 a4 a5 a6 x4 a8 x11 S))
 (Q (.exit 0) (mkf 60 [(0,a0),(1,a1),(4,a4),(5,a5),(6,a6),(7,a7),(8,a8),(18,x3)]) S)
theorem e164_0 (cf:CallF) (a0:D) (a1:D) (a4:D) (a5:D) (a6:D) (a7:D) (a8:D) (a18:D) (S:Store) (Q:Ex→List D→Store→Prop):wp cf c164_0 (fkill (mkf 60 [(0,a0),(1,a1),(4,a4),(5,a5),(6,a6),(7,a7),(8,a8),(18,a18)]) []) S Q=s164_0 cf a0 a1 a4 a5 a6 a7 a8 a18 S Q:=wpS_of (by kernel_rfl)
def s164 (cf:CallF) (a0:D) (a1:D) (S:Store) (Post:D→Store→Prop):Prop:=
 OX (lenD false a0) fun x48=>
 OX (mkslV 1 true [.i .u32 0] S x48) fun p50=>
 OX (cellsV 1 false []) fun x51=>
 OX (lenD false a0) fun x52=>
 OX (binD .mul .num (.i .i64 32) x52) fun x53=>
 OX (binD .sub .num x53 (.i .i64 1)) fun x54=>
 W cf (.loop [] c164_0) (mkf 60 [(0,a0),(1,a1),(4,.top),(5,.top),(6,p50.1),(7,(bslO 1 x51 p50.2).1),(8,x54),(18,.top)]) (bslO 1 x51 p50.2).2 (Qblk 0 (QS cf c164_r0 (FinK [.t 4,.t 5] Post)))
theorem e164 (cf:CallF) (a0:D) (a1:D) (S:Store) (Post:D→Store→Prop):wp cf c164 (frame0 d164 [a0,a1]) S (FinK d164.res Post)=s164 cf a0 a1 S Post:=wpS_of (by kernel_rfl)
theorem i164 (a0:D) (a1:D) (r:D) (ha:noRefL (stripL [a0,a1])=true) (hr:noRef r=true) (h:s164 (call dp) (strip a0) (strip a1) [] fun d _=>stripT d=r):isoCall (call dp) 164 [a0,a1]=some r:=iso_s (f:=d164) rfl ⟨rfl,by decide⟩ ha hr (by rw [←e164] at h;exact h)
def s109_r0 (cf:CallF) (a0:D) (a1:D) (a4:D) (a9:D) (S:Store) (Q:Ex→List D→Store→Prop):Prop:=
 Q .ret (mkf 19 [(0,.top),(1,.top),(4,a0),(9,.top)]) S
theorem e109_r0 (cf:CallF) (a0:D) (a1:D) (a4:D) (a9:D) (S:Store) (Q:Ex→List D→Store→Prop):wp cf c109_r0 (mkf 19 [(0,a0),(1,a1),(4,a4),(9,a9)]) S Q=s109_r0 cf a0 a1 a4 a9 S Q:=wpS_of (by kernel_rfl)
def s109_0 (cf:CallF) (a0:D) (a1:D) (a4:D) (a9:D) (S:Store) (Q:Ex→List D→Store→Prop):Prop:=
 OX (lenD false a1) fun x1=>
 OX (binD .gtr .num x1 (.i .i64 0)) fun x2=>
 WB x2
 (OX (isoCall cf 164 [a0,a1]) fun x3=>
 OX (extD x3 0) fun x4=>
 OX (extD x3 1) fun x5=>
 Q .normal (mkf 19 [(0,a1),(1,x5),(4,a4),(9,.top)]) S)
 (Q (.exit 0) (mkf 19 [(0,a0),(1,a1),(4,a4),(9,x2)]) S)
theorem e109_0 (cf:CallF) (a0:D) (a1:D) (a4:D) (a9:D) (S:Store) (Q:Ex→List D→Store→Prop):wp cf c109_0 (fkill (mkf 19 [(0,a0),(1,a1),(4,a4),(9,a9)]) []) S Q=s109_0 cf a0 a1 a4 a9 S Q:=wpS_of (by kernel_rfl)
def s109 (cf:CallF) (a0:D) (a1:D) (S:Store) (Post:D→Store→Prop):Prop:=
 W cf (.loop [] c109_0) (mkf 19 [(0,a0),(1,a1),(4,.top),(9,.top)]) S (Qblk 0 (QS cf c109_r0 (FinK [.t 4] Post)))
theorem e109 (cf:CallF) (a0:D) (a1:D) (S:Store) (Post:D→Store→Prop):wp cf c109 (frame0 d109 [a0,a1]) S (FinK d109.res Post)=s109 cf a0 a1 S Post:=wpS_of (by kernel_rfl)
theorem j109 (a0:D) (a1:D) (Post:D→Prop) (ha:noRefL (stripL [a0,a1])=true) (hr:∀ r,Post r→noRef r=true) (h:s109 (call dp) (strip a0) (strip a1) [] fun d _=>Post (stripT d)):∃ r,isoCall (call dp) 109 [a0,a1]=some r∧Post r:=iso_x (f:=d109) rfl ⟨rfl,by decide⟩ ha hr (by rw [←e109] at h;exact h)
end Go.Proofs.YtjniafcnjbbomaaGreatDoor.DE

namespace Go.Proofs.YtjniafcnjbbomaaGreatDoor.DE.V
open Go NL
theorem gtr_nat {k:IntKind} (a b:Nat):binD .gtr .num (.i k a) (.i k b)=some (.b (decide (b<a))):=by rw [bin_gtr];simp
theorem gtr0_nat {k:IntKind} (a:Nat):binD .gtr .num (.i k a) (.i k 0)=some (.b (decide (0<a))):=gtr_nat a 0
theorem geq0_nat {k:IntKind} (a:Nat):binD .geq .num (.i k a) (.i k 0)=some (.b true):=by rw [bin_geq];simp
theorem eql_nat {k:IntKind} (a b:Nat):binD .eql .num (.i k a) (.i k b)=some (.b (decide (a=b))):=by simp only [bin_eql,Int.natCast_inj]
theorem eql0_nat {k:IntKind} (a:Nat):binD .eql .num (.i k a) (.i k 0)=some (.b (decide (a=0))):=eql_nat a 0
theorem eql1_nat {k:IntKind} (a:Nat):binD .eql .num (.i k a) (.i k 1)=some (.b (decide (a=1))):=eql_nat a 1
theorem neq_nat {k:IntKind} (a b:Nat):binD .neq .num (.i k a) (.i k b)=some (.b (!decide (a=b))):=by simp only [bin_neq,Int.natCast_inj]
open Classical in
theorem v108 (nl:Bool) (l:List Nat) (hb:Bd l.length):isoCall (call dp) 108 [eLims nl l .ro]=some (.b (decide (VN l))):=by
 apply i108 _ _ (by simp [noRefL]) rfl
 simp only [s108,strip_lims,len_lims,OX_some,bin_leq]
 by_cases h1:l.length≤128
 ·have h1':(l.length:Int)≤128:=by omega
  by_cases h2:l=[]
  ·subst h2
   have:VN []:=⟨by simp,by simp⟩
   simp [this]
  ·have hl:l.length≠0:=by simpa using h2
   have hw:IntKind.i64.wrap ((l.length:Int)-1)=((l.length-1:Nat):Int):=by rw [wrap64 ⟨by omega,by omega⟩];omega
   have hia:=ia_lims (nl:=nl) (o:=.ro) (k:=.i64) (l:=l) (i:=l.length-1) (by omega)
   have hv:VN l↔dg l (l.length-1)≠0:=by
    unfold VN
    rw [last_dg h2]
    simp [h1]
   simp [h1',h2,hw,hia,hv]
 ·have h1':¬(l.length:Int)≤128:=by omega
  have:¬VN l:=fun h=>h1 h.1
  simp [h1',this]
def J138 (nl:Bool) (l:List Nat):Nat→List D→Store→Prop:=fun n fr S=>∃ a2 a14,n≤l.length∧(∀ j,n≤j→dg l j=0)∧S=[]∧fr=mkf 21 [(0,eLims nl (l.take n) .ro),(2,a2),(14,a14)]
theorem v138 {d:D} (nl:Bool) (l:List Nat) (hd:strip d=eLims nl l .ro) (h:Lim l) (hb:l.length≤1000):isoCall (call dp) 138 [d]=some (eLims nl (ofN (val l)) .ro):=by
 apply i138 _ _ (by simp [hd,noRefL]) (by simp)
 simp only [s138,hd]
 generalize hR:QS (call dp) c138_r0 _=R
 refine W_loop (J138 nl l) ?_ l.length _ _ ⟨.top,.top,Nat.le_refl _,fun j hj=>dg_ge hj,rfl,by rw [List.take_length]⟩
 rintro n fr S ⟨a2,a14,hn,hz,rfl,rfl⟩
 rw [←wp_W,e138_0]
 have hln:(l.take n).length=n:=by rw [List.length_take];omega
 have fin:(n=0∨dg l (n-1)≠0)→R .normal (mkf 21 [(0,eLims nl (l.take n) .ro),(2,a2),(14,.b false)]) []:=by
  intro ht
  rw [←hR,take_can h hn hz ht]
  simp only [QS_normal,e138_r0,s138_r0]
  simp only [FinK,finR]
  rfl
 by_cases h0:n=0
 ·subst h0
  have hg:binD .gtr .num (.i .i64 ((0:Nat):Int)) (.i .i64 0)=some (.b false):=by rw [bin_gtr];rfl
  simp only [s138_0,len_lims,hln,OX_some,hg,gsel_ft,pick_f,WB_false,Qseq_exit,Qblk_same]
  exact fin (.inl rfl)
 ·obtain ⟨m,rfl⟩:∃ m,n=m+1:=⟨n-1,by omega⟩
  have hg:binD .gtr .num (.i .i64 ((m+1:Nat):Int)) (.i .i64 0)=some (.b true):=by rw [gtr0_nat];simp
  have hs:binD .sub .num (.i .i64 ((m+1:Nat):Int)) (.i .i64 1)=some (.i .i64 (m:Int)):=sub_nat (a:=m+1) (b:=1) (by omega) (by omega)
  have hdg:dg (l.take (m+1)) m=dg l m:=by
   simp only [dg,List.getElem?_take_of_lt (show m<m+1 by omega)]
  have hia:=ia_lims (nl:=nl) (l:=l.take (m+1)) (o:=.ro) (k:=.i64) (i:=m) (by omega)
  rw [hdg] at hia
  have he:binD .eql .num (.i .u32 (dg l m:Nat)) (.i .u32 0)=some (.b (decide (dg l m=0))):=eql0_nat _
  have hsl:slcD 1 (eLims nl (l.take (m+1)) .ro) none (some (.i .i64 (m:Int)))=some (eLims nl (l.take m) .ro):=by
   rw [slc_lims (by omega),List.take_take,Nat.min_eq_left (by omega)]
  simp only [s138_0,len_lims,hln,OX_some,hg,gsel_tt,hs,hia,ld_el1,he,pick_t]
  by_cases hd:dg l m=0
  ·simp only [hd,decide_true,WB_true,hsl,OX_some,Qseq_normal]
   refine ⟨m,by omega,a2,.top,by omega,fun j hj=>?_,rfl,rfl⟩
   by_cases e:j=m
   ·rw [e];exact hd
   ·exact hz j (by omega)
  ·simp only [hd,decide_false,WB_false,Qseq_exit,Qblk_same]
   exact fin (.inr (by simpa using hd))
theorem v163 {d:D} (nl:Bool) (l:List Nat) (hd:strip d=eLims nl l .ro) (h:Lim l) (i:Nat):isoCall (call dp) 163 [d,.i .i64 i]=some (.i .u64 (dg l i:Nat)):=by
 apply i163 _ _ _ (by simp [hd,noRefL]) rfl
 simp only [s163,hd,strip_i,len_lims,OX_some,lss_nat]
 by_cases hi:i<l.length
 ·simp only [hi,decide_true,WB_true,ia_lims hi,OX_some,ld_el1,conv64B (dg_lt h i),stripT_i]
 ·simp only [hi,decide_false,WB_false,dg_ge (Nat.le_of_not_lt hi),stripT_i]
  rfl
def J101 (nl nl':Bool) (a b:List Nat):Nat→List D→Store→Prop:=fun q fr S=>∃ a4 a20,q≤b.length∧a.drop q=b.drop q∧S=[]∧fr=mkf 41 [(0,eLims nl a .ro),(1,eLims nl' b .ro),(4,a4),(5,.i .i64 ((q:Int)-1)),(20,a20)]
theorem v101 {d d':D} (nl nl':Bool) (x y:Nat) (hd:strip d=eLims nl (ofN x) .ro) (hd':strip d'=eLims nl' (ofN y) .ro) (hb:(ofN x).length≤1000) (hb':(ofN y).length≤1000):isoCall (call dp) 101 [d,d']=some (.i .i64 (sgn x y)):=by
 apply i101 _ _ _ (by simp [hd,hd',noRefL]) rfl
 have la:=lim_ofN x
 have lb:=lim_ofN y
 have ca:=can_ofN x
 have cb:=can_ofN y
 have e1:sgn x y=sgn (val (ofN x)) (val (ofN y)):=by rw [val_ofN,val_ofN]
 rw [e1]
 simp only [s101,hd,hd',len_lims,OX_some,bin_neq]
 generalize ofN x=a at *
 generalize ofN y=b at *
 by_cases hl:a.length=b.length
 ·have hl':(!decide ((a.length:Int)=(b.length:Int)))=false:=by simp [hl]
  have hs:binD .sub .num (.i .i64 (a.length:Int)) (.i .i64 1)=some (.i .i64 ((b.length:Int)-1)):=by rw [bin_sub,wrap64 ⟨by omega,by omega⟩,hl]
  simp only [hl',WB_false,hs,OX_some]
  generalize hR:QS (call dp) c101_r0 _=R
  refine W_loop (J101 nl nl' a b) ?_ b.length _ _ ⟨.top,.top,Nat.le_refl _,by rw [List.drop_of_length_le (by omega),List.drop_of_length_le (by omega)],rfl,rfl⟩
  rintro q fr S ⟨a4,a20,hq,he,rfl,rfl⟩
  rw [←wp_W,e101_0]
  by_cases h0:q=0
  ·subst h0
   have:a=b:=by simpa using he
   subst this
   have hg:binD .geq .num (.i .i64 (((0:Nat):Int)-1)) (.i .i64 0)=some (.b false):=by rw [bin_geq];rfl
   simp only [s101_0,hg,OX_some,WB_false,Qseq_exit,Qblk_same]
   rw [←hR]
   simp only [QS_normal,e101_r0,s101_r0]
   simp [sgn]
  ·obtain ⟨k,rfl⟩:∃ k,q=k+1:=⟨q-1,by omega⟩
   have e1:((k+1:Nat):Int)-1=k:=by omega
   have hg:binD .geq .num (.i .i64 (k:Int)) (.i .i64 0)=some (.b true):=by rw [bin_geq];simp
   have i1:=ia_lims (nl:=nl) (o:=.ro) (k:=.i64) (l:=a) (i:=k) (by omega)
   have i2:=ia_lims (nl:=nl') (o:=.ro) (k:=.i64) (l:=b) (i:=k) (by omega)
   have hne:binD .neq .num (.i .u32 (dg a k:Nat)) (.i .u32 (dg b k:Nat))=some (.b (!decide (dg a k=dg b k))):=neq_nat _ _
   rw [e1]
   simp only [s101_0,hg,OX_some,WB_true,i1,i2,ld_el1,hne,lss_nat]
   by_cases hdk:dg a k=dg b k
   ·have w:IntKind.i64.wrap ((k:Int)-1)=(k:Int)-1:=wrap64 ⟨by omega,by omega⟩
    simp only [hdk,decide_true,Bool.not_true,WB_false,bin_sub,w,OX_some,Qseq_normal]
    exact ⟨k,by omega,a4,.top,by omega,drop_eq (by omega) (by omega) he hdk,rfl,rfl⟩
   ·have hs:=sgn_of (x:=val a) (y:=val b) (a:=dg a k) (b:=dg b k) (fun h=>lt_at la he (get_dg (by omega)) (get_dg (by omega)) h) (fun h=>lt_at lb he.symm (get_dg (by omega)) (get_dg (by omega)) h) hdk
    have hv:sgn (val a) (val b)=if dg a k<dg b k then -1 else 1:=by rw [←hs];unfold sgn;rw [if_neg hdk]
    simp only [hdk,decide_false,Bool.not_false,WB_true]
    by_cases hlt:dg a k<dg b k
    ·simp only [hlt,decide_true,WB_true,Qseq_ret,Qblk_ret]
     rw [←hR,QS_ret,FinK_ret1,hv,if_pos hlt]
     rfl
    ·simp only [hlt,decide_false,WB_false,Qseq_ret,Qblk_ret]
     rw [←hR,QS_ret,FinK_ret1,hv,if_neg hlt]
     rfl
 ·have hl':(!decide ((a.length:Int)=(b.length:Int)))=true:=by simp;omega
  have hs:=sgn_of (x:=val a) (y:=val b) (a:=a.length) (b:=b.length) (fun h=>lt_len la cb h) (fun h=>lt_len lb ca h) hl
  simp only [hl',WB_true,lss_nat,OX_some]
  rw [←hs]
  unfold sgn
  by_cases hlt:a.length<b.length
  ·simp only [hlt,decide_true,WB_true,if_true];rfl
  ·simp only [hlt,decide_false,WB_false,if_false,hl];rfl
def Ap (out:List Nat) (d:D) (S:Store):Prop:=(out=[]∧d = .sl 1 false [] .cap0∧S=[])∨(out≠[]∧∃ t,d=eLims false out (.tok t)∧sget S t=some (.tok true))
theorem Ap.strip {out:List Nat} {d:D} {S:Store} (h:Ap out d S):strip d=eLims false out .ro:=by
 rcases h with ⟨rfl,rfl,_⟩ | ⟨_,t,rfl,_⟩ <;> rfl
theorem Ap.app {out:List Nat} {d:D} {S:Store} (h:Ap out d S) (x:Nat) (hl:out.length≤1000):∃ d' S',appD 1 false d (.sl 1 false [[.i .u32 x]] .ro) S=some (d',S')∧Ap (out++[x]) d' S':=by
 rcases h with ⟨rfl,rfl,rfl⟩ | ⟨_,t,rfl,hs⟩
 ·exact ⟨_,_,app_cap0 _ (by unfold maxLenD;simp),.inr ⟨by simp,_,rfl,sget_top _ _⟩⟩
 ·refine ⟨_,_,app_tok _ (by unfold maxLenD;simp;omega) hs,.inr ⟨by simp,List.length S,by simp [eLims],?_⟩⟩
  rw [←sset_len (Ent.tok false) S t]
  exact sget_top _ _
theorem can_ge {l:List Nat} (h:Lim l) (hv:l=[]∨B ^ (l.length-1)≤val l):NL.Can l:=by
 refine ⟨h,?_⟩
 rcases hv with rfl | hv
 ·simp
 ·by_cases h0:l=[]
  ·subst h0;simp
  ·rw [last_dg h0]
   intro e
   injection e with e
   have hl:l.length≠0:=by simpa using h0
   have e2:=vt_succ l (l.length-1)
   rw [vt_full (by omega),e,Nat.mul_zero,Nat.add_zero] at e2
   have:=val_take_lt h (l.length-1)
   omega
theorem ge_len {x:Nat} (h:ofN x≠[]):B ^ ((ofN x).length-1)≤x:=by
 rcases Nat.lt_or_ge x (B ^ ((ofN x).length-1)) with q | q
 ·have:=len_ofN q
  have:(ofN x).length≠0:=by simpa using h
  omega
 ·exact q
end Go.Proofs.YtjniafcnjbbomaaGreatDoor.DE.V

namespace Go.Proofs.YtjniafcnjbbomaaGreatDoor.DE.V
open Go NL
theorem lim_nil:Lim []:=fun _ h=>(by cases h)
theorem remK {k:IntKind} {a b:Nat} (h:0<b):binD .rem .num (.i k a) (.i k b)=some (.i k ((a % b:Nat):Int)):=by
 simp only [binD,intOp,if_true]
 have e:(a:Int).tmod b=((a % b:Nat):Int):=(Int.ofNat_tmod a b).symm
 rw [if_neg (by omega),e]
theorem remB (a:Nat):binD .rem .num (.i .u64 a) (.i .u64 4294967296)=some (.i .u64 ((a % B:Nat):Int)):=rem64 (b:=B) B_pos
theorem quoB {a:Nat} (h:a<18446744073709551616):binD .quo .num (.i .u64 a) (.i .u64 4294967296)=some (.i .u64 ((a / B:Nat):Int)):=quo64 (b:=B) B_pos h
def J162 (n1 n2:Bool) (x y:Nat):Nat→List D→Store→Prop:=fun q fr S=>∃ i c out a4 a5 a23,q=2000-i∧i≤900∧c≤1∧List.length out=i∧Lim out∧Ap out a5 S∧(i=0∨B ^ (i-1)≤x+y) ∧
 val out+B ^ i * c=val ((ofN x).take i)+val ((ofN y).take i) ∧
 fr=mkf 44 [(0,eLims n1 (ofN x) .ro),(1,eLims n2 (ofN y) .ro),(4,a4),(5,a5),(6,.i .u64 c),(7,.i .i64 i),(23,a23)]
theorem v162 {d d':D} (n1 n2:Bool) (x y:Nat) (hd:strip d=eLims n1 (ofN x) .ro) (hd':strip d'=eLims n2 (ofN y) .ro) (hx:(ofN x).length≤500) (hy:(ofN y).length≤500) :
  isoCall (call dp) 162 [d,d']=some (eLims false (ofN (x+y)) .ro):=by
 apply i162 _ _ _ (by simp [hd,hd',noRefL]) (by simp)
 have la:=lim_ofN x
 have lb:=lim_ofN y
 simp only [s162,hd,hd',cellsV_nil,OX_some,bslO_nil]
 generalize hR:QS (call dp) c162_r0 _=R
 refine W_loop (J162 n1 n2 x y) ?_ 2000 _ _ ⟨0,0,[],.top,_,.top,by omega,by omega,by omega,rfl,lim_nil,.inl ⟨rfl,rfl,rfl⟩,.inl rfl,by simp [val],rfl⟩
 rintro q fr S ⟨i,c,out,a4,a5,a23,rfl,hi,hc,lo,hL,hap,hge,he,rfl⟩
 rw [←wp_W,e162_0]
 have hgt:binD .gtr .num (.i .u64 (c:Int)) (.i .u64 0)=some (.b (decide (0<c))):=by rw [bin_gtr];simp
 have hda:=dg_lt la i
 have hdb:=dg_lt lb i
 have step:(i<(ofN x).length∨i<(ofN y).length∨0<c) →
  (OX (isoCall (call dp) 163 [eLims n1 (ofN x) .ro,.i .i64 i]) fun x11=>
   OX (isoCall (call dp) 163 [eLims n2 (ofN y) .ro,.i .i64 i]) fun x12=>
   OX (binD .add .num x11 x12) fun x13=>
   OX (binD .add .num x13 (.i .u64 c)) fun x14=>
   OX (binD .rem .num x14 (.i .u64 4294967296)) fun x15=>
   OX (convD .u32 x15) fun x16=>
   OX (cellsV 1 false [x16]) fun x17=>
   OX (appD 1 false a5 (.sl 1 false x17 .ro) S) fun p19=>
   OX (binD .quo .num x14 (.i .u64 4294967296)) fun x20=>
   OX (binD .add .num (.i .i64 i) (.i .i64 1)) fun x21=>
   Qseq (fun fr' S'=>∃ m',m'<2000-i∧J162 n1 n2 x y m' fr' S') (Qblk 0 R) .normal (mkf 44 [(0,eLims n1 (ofN x) .ro),(1,eLims n2 (ofN y) .ro),(4,a4),(5,p19.1),(6,x20),(7,x21),(23,.top)]) p19.2):=by
  intro hor
  have hcond:i<600∧B ^ i≤x+y:=by
   rcases hor with h | h | h
   ·refine ⟨by omega,?_⟩
    have:=ge_len (x:=x) (by intro e;rw [e] at h;simp at h)
    have h2:B ^ i≤B ^ ((ofN x).length-1):=Nat.pow_le_pow_right B_pos (by omega)
    omega
   ·refine ⟨by omega,?_⟩
    have:=ge_len (x:=y) (by intro e;rw [e] at h;simp at h)
    have h2:B ^ i≤B ^ ((ofN y).length-1):=Nat.pow_le_pow_right B_pos (by omega)
    omega
   ·have c1:c=1:=by omega
    have e1:val ((ofN x).take i)≤x:=by
     rcases Nat.lt_or_ge i (ofN x).length with q | q
     ·have:=val_take_drop (ofN x) i (by omega)
      rw [val_ofN] at this
      omega
     ·rw [vt_full q,val_ofN];exact Nat.le_refl _
    have e2:val ((ofN y).take i)≤y:=by
     rcases Nat.lt_or_ge i (ofN y).length with q | q
     ·have:=val_take_drop (ofN y) i (by omega)
      rw [val_ofN] at this
      omega
     ·rw [vt_full q,val_ofN];exact Nat.le_refl _
    rw [c1,Nat.mul_one] at he
    have hB:B ^ i≤x+y:=by omega
    refine ⟨?_,hB⟩
    obtain ⟨K,hK⟩:∃ K,K=500:=⟨500,rfl⟩
    have l1:x<B ^ K:=lt_of_len (by omega)
    have l2:y<B ^ K:=lt_of_len (by omega)
    rcases Nat.lt_or_ge i 600 with q | q
    ·exact q
    ·exfalso
     have h3:B ^ (K+1)≤B ^ i:=Nat.pow_le_pow_right B_pos (by omega)
     rw [Nat.pow_succ] at h3
     generalize B ^ K=P at *
     generalize B ^ i=Y at *
     simp only [B] at h3
     omega
  have hsum:dg (ofN x) i+dg (ofN y) i+c<18446744073709551616:=by simp only [B] at *;omega
  have hcell:cellsV 1 false [D.i .u32 (((dg (ofN x) i+dg (ofN y) i+c) % B:Nat):Int)]=some [[.i .u32 (((dg (ofN x) i+dg (ofN y) i+c) % B:Nat):Int)]]:=cellsV_i _ _
  obtain ⟨d',S',e1,hap'⟩:=hap.app ((dg (ofN x) i+dg (ofN y) i+c) % B) (by omega)
  simp only [v163 n1 _ (strip_lims _ _ _) la i,v163 n2 _ (strip_lims _ _ _) lb i,OX_some,add64 (show dg (ofN x) i+dg (ofN y) i<18446744073709551616 by omega),add64 hsum,remB,conv32 (Nat.mod_lt _ B_pos),hcell,e1,quoB hsum,inc_nat (show Bd i by unfold Bd;omega),Qseq_normal]
  refine ⟨2000-(i+1),by omega,i+1,_,out++[_],a4,d',.top,rfl,by omega,?_,by simp;omega,lim_snoc hL (Nat.mod_lt _ B_pos),hap',.inr hcond.2,?_,rfl⟩
  ·simp only [B] at *;omega
  ·rw [vt_succ,vt_succ,val_snoc,lo,Nat.pow_succ]
   exact add_step he
 have fin:¬(i<(ofN x).length∨i<(ofN y).length∨0<c)→∀ z,R .normal (mkf 44 [(0,eLims n1 (ofN x) .ro),(1,eLims n2 (ofN y) .ro),(4,a4),(5,a5),(6,.i .u64 c),(7,.i .i64 i),(23,z)]) S:=by
  intro hn z
  have c0:c=0:=by omega
  rw [c0,vt_full (by omega),vt_full (by omega),val_ofN,val_ofN,Nat.mul_zero,Nat.add_zero] at he
  have hcan:NL.Can out:=can_ge hL (by
   rcases hge with h | h
   ·left;exact List.length_eq_zero_iff.1 (by omega)
   ·right;rw [lo,he];exact h)
  have ho:out=ofN (x+y):=by rw [←he,ofN_val hcan]
  rw [←hR]
  simp only [QS_normal,e162_r0,s162_r0]
  rw [FinK_ret1]
  show stripT a5=_
  have:=hap.strip
  rw [ho] at this
  rcases hap with ⟨h1,rfl,_⟩ | ⟨_,t,rfl,_⟩
  ·exact this
  ·exact this
 by_cases h1:i<(ofN x).length
 ·simp only [s162_0,len_lims,OX_some,lss_nat,h1,decide_true,gsel_tf,pick_t,WB_true]
  exact step (.inl h1)
 ·by_cases h2:i<(ofN y).length
  ·simp only [s162_0,len_lims,OX_some,lss_nat,h1,h2,decide_true,decide_false,gsel_ff,gsel_tf,pick_f,pick_t,WB_true]
   exact step (.inr (.inl h2))
  ·by_cases h3:0<c
   ·simp only [s162_0,len_lims,OX_some,lss_nat,h1,h2,h3,decide_true,decide_false,gsel_ff,pick_f,hgt,WB_true]
    exact step (.inr (.inr h3))
   ·simp only [s162_0,len_lims,OX_some,lss_nat,h1,h2,h3,decide_false,gsel_ff,pick_f,hgt,WB_false,Qseq_exit,Qblk_same]
    exact fin (by omega) _
def J102 (n1 n2:Bool) (a b:List Nat):Nat→List D→Store→Prop:=fun q fr S=>∃ i c out a4 a5 a14,q=a.length-i∧i≤a.length∧c≤1∧List.length out=i∧Lim out∧Ap out a5 S ∧
 val out+val (b.take i)=val (a.take i)+B ^ i * c ∧
 fr=mkf 39 [(0,eLims n1 a .ro),(1,eLims n2 b .ro),(4,a4),(5,a5),(6,.i .u64 c),(7,.i .i64 i),(14,a14)]
theorem sub_lim {x s c:Nat} (hx:x<B) (hs:s<B) (hc:c≤1):difL x s c=(if x<s+c then x+B-(s+c) else x-(s+c)):=by
 unfold difL
 simp only [B] at *
 split <;> omega
theorem v102 {d d':D} (n1 n2:Bool) (x y:Nat) (hd:strip d=eLims n1 (ofN x) .ro) (hd':strip d'=eLims n2 (ofN y) .ro) (hx:(ofN x).length≤500) (hle:y≤x) :
  isoCall (call dp) 102 [d,d']=some (eLims false (ofN (x-y)) .ro):=by
 apply i102 _ _ _ (by simp [hd,hd',noRefL]) (by simp)
 have la:=lim_ofN x
 have lb:=lim_ofN y
 have hlen:(ofN y).length≤(ofN x).length:=len_le_of_val la (can_ofN y) (by rw [val_ofN,val_ofN];exact hle)
 have hvx:=val_ofN x
 have hvy:=val_ofN y
 simp only [s102,hd,hd',cellsV_nil,OX_some,bslO_nil]
 generalize hR:QS (call dp) c102_r0 _=R
 generalize ofN x=a at *
 generalize ofN y=b at *
 refine W_loop (J102 n1 n2 a b) ?_ a.length _ _ ⟨0,0,[],.top,_,.top,by omega,by omega,by omega,rfl,lim_nil,.inl ⟨rfl,rfl,rfl⟩,by simp [val],rfl⟩
 rintro q fr S ⟨i,c,out,a4,a5,a14,rfl,hi,hc,lo,hL,hap,he,rfl⟩
 rw [←wp_W,e102_0]
 by_cases hlt:i<a.length
 ·have hda:=dg_lt la i
  have hdb:=dg_lt lb i
  have hdl:=difL_eq hda hdb hc
  have hdL:=difL_lt (dg a i) (dg b i) c
  have hsl:=sub_lim hda hdb hc
  have hcell:∀ n:Nat,cellsV 1 false [D.i .u32 (n:Int)]=some [[.i .u32 (n:Int)]]:=fun n=>cellsV_i _ _
  obtain ⟨d',S',e1,hap'⟩:=hap.app (difL (dg a i) (dg b i) c) (by omega)
  have h32:=conv32 (k:=.u64) hdL
  have fin:∃ m',m'<a.length-i∧J102 n1 n2 a b m' (mkf 39 [(0,eLims n1 a .ro),(1,eLims n2 b .ro),(4,a4),(5,d'),(6,.i .u64 (borL (dg a i) (dg b i) c:Nat)),(7,.i .i64 ((i+1:Nat):Int)),(14,.top)]) S':=by
   refine ⟨a.length-(i+1),by omega,i+1,_,out++[_],a4,d',.top,rfl,by omega,borL_le _ _ _,by simp;omega,lim_snoc hL hdL,hap',?_,rfl⟩
   rw [vt_succ,vt_succ,val_snoc,lo,Nat.pow_succ]
   exact sub_step he hdl
  by_cases hb:dg a i<dg b i+c
  ·have hbor:borL (dg a i) (dg b i) c=1:=if_pos hb
   rw [if_pos hb] at hsl
   rw [hsl] at h32 e1
   rw [hbor] at fin
   have hadd:binD .add .num (.i .u64 (dg a i:Nat)) (.i .u64 4294967296)=some (.i .u64 ((dg a i+B:Nat):Int)):=add64 (b:=B) (by simp only [B] at *;omega)
   simp only [s102_0,jn,len_lims,OX_some,lss_nat,hlt,decide_true,WB_true,v163 n1 _ (strip_lims _ _ _) la i,v163 n2 _ (strip_lims _ _ _) lb i,add64 (show dg b i+c<18446744073709551616 by simp only [B] at *;omega),hb,hadd,sub64 (show dg b i+c≤dg a i+B by omega) (show dg a i+B<18446744073709551616 by simp only [B] at *;omega),h32,hcell,e1,inc_nat (show Bd i by unfold Bd;omega),Qseq_normal]
   exact fin
  ·have hbor:borL (dg a i) (dg b i) c=0:=if_neg hb
   rw [if_neg hb] at hsl
   rw [hsl] at h32 e1
   rw [hbor] at fin
   simp only [s102_0,jn,len_lims,OX_some,lss_nat,hlt,decide_true,WB_true,v163 n1 _ (strip_lims _ _ _) la i,v163 n2 _ (strip_lims _ _ _) lb i,add64 (show dg b i+c<18446744073709551616 by simp only [B] at *;omega),hb,decide_false,WB_false,sub64 (show dg b i+c≤dg a i by omega) (show dg a i<18446744073709551616 by simp only [B] at *;omega),h32,hcell,e1,inc_nat (show Bd i by unfold Bd;omega),Qseq_normal]
   exact fin
 ·have:i=a.length:=by omega
  subst this
  have hv:val out=x-y:=by
   rw [vt_full hlen,vt_full (Nat.le_refl _),hvx,hvy] at he
   have e1:=val_lt hL
   rw [lo] at e1
   have:c=0∨c=1:=by omega
   rcases this with h | h
   ·subst h;omega
   ·subst h;omega
  have h138:=v138 false out hap.strip hL (by omega)
  rw [hv] at h138
  simp only [s102_0,jn,len_lims,OX_some,lss_nat,hlt,decide_false,WB_false,Qseq_exit,Qblk_same]
  rw [←hR]
  simp only [QS_normal,e102_r0,s102_r0,h138,OX_some]
  rw [FinK_ret1]
  rfl
end Go.Proofs.YtjniafcnjbbomaaGreatDoor.DE.V

namespace Go.Proofs.YtjniafcnjbbomaaGreatDoor.DE.V
open Go NL
def J73 (nl nl':Bool) (a b:List Nat) (n:Nat):Nat→List D→Store→Prop:=fun q fr S=>∃ i out a4 a7 a8 a19 a25,q=a.length-i∧i≤a.length∧List.length out=n∧Lim out∧(∀ j,i+b.length≤j→dg out j=0) ∧
 val out=val (a.take i) * val b∧S=[.box (eCells out)] ∧
 fr=mkf 69 [(0,eLims nl a .ro),(1,eLims nl' b .ro),(4,a4),(5,.ar 1 0 0 n),(6,.i .i64 i),(7,a7),(8,a8),(19,a19),(25,a25)]
def K73 (nl nl':Bool) (a b:List Nat) (n i:Nat):Nat→List D→Store→Prop:=fun q fr S=>∃ j out c a4 a19 a25,q=b.length-j∧j≤b.length∧c<B∧List.length out=n∧Lim out∧(∀ j,i+b.length≤j→dg out j=0) ∧
 val out+B ^ (i+j) * c=val (a.take i) * val b+B ^ i * dg a i * val (b.take j)∧S=[.box (eCells out)] ∧
 fr=mkf 69 [(0,eLims nl a .ro),(1,eLims nl' b .ro),(4,a4),(5,.ar 1 0 0 n),(6,.i .i64 i),(7,.i .u64 c),(8,.i .i64 j),(19,a19),(25,a25)]
theorem v73 {d d':D} (nl nl':Bool) (a b:List Nat) (hd:strip d=eLims nl a .ro) (hd':strip d'=eLims nl' b .ro) (la:Lim a) (lb:Lim b) (h1:a.length≤400) (h2:b.length≤400) :
  isoCall (call dp) 73 [d,d']=some (eLims false (ofN (val a * val b)) .ro):=by
 apply i73 _ _ _ (by simp [hd,hd',noRefL]) (by simp)
 have mk:=fun S=>mksl_lims (S:=S) (n:=a.length+b.length) (by unfold maxLenD;omega)
 simp only [s73,hd,hd',OX_some,len_lims,add_nat (show a.length+b.length<9223372036854775808 by omega),mk,List.length_nil]
 generalize hn:a.length+b.length=n at *
 generalize hR:QS (call dp) c73_r2 _=R
 refine W_loop (J73 nl nl' a b n) ?_ a.length _ _ ⟨0,_,.top,.top,.top,.top,.top,by omega,by omega,List.length_replicate,lim_zeros n,fun j _=>dg_zeros n j,by rw [val_zeros];simp [val],rfl,rfl⟩
 rintro q fr S ⟨i,out,a4,a7,a8,a19,a25,rfl,hin,lo,hL,hz,he,rfl,rfl⟩
 rw [←wp_W,e73_1]
 by_cases hlt:i<a.length
 ·simp only [s73_1,len_lims,OX_some,lss_nat,hlt,decide_true,WB_true]
  refine W_loop (K73 nl nl' a b n i) ?_ b.length _ _ ⟨0,out,0,a4,.top,a25,by omega,by omega,by decide,lo,hL,hz,by rw [he];simp [val],rfl,rfl⟩
  rintro q fr S ⟨j,out,c,a4,a19,a25,rfl,hjn,hc,lo,hL,hz,he,rfl,rfl⟩
  rw [←wp_W,e73_0]
  have l0:sget [Ent.box (eCells out)] 0=some (.box (eCells out)):=rfl
  by_cases hjl:j<b.length
  ·have hx:=dg_lt la i
   have hy:=dg_lt lb j
   have ho:=dg_lt hL (i+j)
   have hbd:=mul_bound hx hy ho hc
   have hBB:B * B=18446744073709551616:=rfl
   have hq:(dg a i * dg b j+dg out (i+j)+c) / B<B:=by
    rw [Nat.div_lt_iff_lt_mul B_pos];exact hbd
   simp only [s73_0,len_lims,OX_some,lss_nat,hjl,decide_true,WB_true,ia_lims hlt,ia_lims hjl,ld_el1,conv64B hx,conv64B hy,mul64 (show dg a i * dg b j<18446744073709551616 by omega),
    add_nat (show i+j<9223372036854775808 by omega),ia_ar (show i+j<n by omega),Nat.zero_add,ld_cells l0 (show i+j<out.length by omega),conv64B ho,add64 (show dg a i * dg b j+dg out (i+j)<18446744073709551616 by omega),add64 (show dg a i * dg b j+dg out (i+j)+c<18446744073709551616 by omega),
    remB,conv32 (Nat.mod_lt _ B_pos),quoB (show dg a i * dg b j+dg out (i+j)+c<18446744073709551616 by omega),st_cells l0 (show i+j<out.length by omega),inc_nat (show Bd j by unfold Bd;omega),Qseq_normal]
   refine ⟨b.length-(j+1),by omega,j+1,out.set (i+j) _,_,a4,a19,.top,rfl,by omega,hq,by simpa using lo,lim_set hL (Nat.mod_lt _ B_pos),?_,?_,rfl,rfl⟩
   ·intro k hk
    rw [dg_set_ne (by omega)]
    exact hz k hk
   ·rw [vt_succ,←Nat.add_assoc,Nat.pow_succ]
    exact mul_step he (val_set _ (by omega)) rfl (Nat.pow_add _ _ _)
  ·have:j=b.length:=by omega
   subst this
   simp only [s73_0,len_lims,OX_some,lss_nat,hjl,decide_false,WB_false,Qseq_exit,Qblk_same,QS_normal,e73_r0,s73_r0,add_nat (show i+b.length<9223372036854775808 by omega),ia_ar (show i+b.length<n by omega),Nat.zero_add,conv32 hc,
    st_cells l0 (show i+b.length<out.length by omega),Qblk_normal,e73_r1,s73_r1,inc_nat (show Bd i by unfold Bd;omega),Qseq_normal]
   refine ⟨a.length-(i+1),by omega,i+1,out.set (i+b.length) c,a4,.top,.top,a19,.top,rfl,by omega,by simpa using lo,lim_set hL hc,?_,?_,rfl,rfl⟩
   ·intro k hk
    rw [dg_set_ne (by omega)]
    exact hz k (by omega)
   ·rw [val_set0 _ (by omega) (hz _ (Nat.le_refl _)),he,vt_succ,vt_full (Nat.le_refl _),Nat.add_mul]
 ·have:i=a.length:=by omega
  subst this
  have l0:sget [Ent.box (eCells out)] 0=some (.box (eCells out)):=rfl
  have hf:=fz_lims l0
  rw [lo] at hf
  rw [vt_full (Nat.le_refl _)] at he
  have h138:=v138 false out (strip_lims false out .ro) hL (by omega)
  rw [he] at h138
  simp only [s73_1,len_lims,OX_some,lss_nat,hlt,decide_false,WB_false,Qseq_exit,Qblk_same]
  rw [←hR]
  simp only [QS_normal,e73_r2,s73_r2,hf,h138,OX_some]
  rw [FinK_ret1]
  rfl
def J164 (nl n2:Bool) (a:List Nat) (y:Nat):Nat→List D→Store→Prop:=fun k fr S=>∃ q a4 a5 a7 a18,k≤32 * a.length∧List.length q=a.length∧Lim q∧val q=val a / 2 ^ k / y * 2 ^ k∧strip a7=eLims false (ofN (val a / 2 ^ k % y)) .ro∧S=[.box (eCells q)] ∧
 fr=mkf 60 [(0,eLims nl a .ro),(1,eLims n2 (ofN y) .ro),(4,a4),(5,a5),(6,.ar 1 0 0 a.length),(7,a7),(8,.i .i64 ((k:Int)-1)),(18,a18)]
theorem bit32 {v s:Nat} (hs:s<32):binD .shr .num (.i .u32 (v:Nat)) (.i .i64 s)=some (.i .u32 ((v / 2 ^ s:Nat):Int)):=shr_any (k:=.u32) (k':=.i64) (v:=v) (s:=s) (by simp only [IntKind.bits];omega)
theorem shl1 {s:Nat} (hs:s<32):binD .shl .num (.i .u32 1) (.i .i64 s)=some (.i .u32 ((2 ^ s:Nat):Int)):=by
 have hm:min s 32=s:=by omega
 simp only [binD,shOp]
 rw [if_neg (by omega)]
 simp only [IntKind.bits,Int.toNat_natCast,hm]
 have e:(1:Int) * (2:Int) ^ s=((2 ^ s:Nat):Int):=by simp
 rw [e]
 have:=Nat.pow_lt_pow_right (show 1<2 by decide) hs
 generalize 2 ^ s=m at *
 rw [wrapu32 (by omega) (by omega)]
theorem add32 {a b:Nat} (h:a+b<B):binD .add .num (.i .u32 a) (.i .u32 b)=some (.i .u32 ((a+b:Nat):Int)):=by
 rw [bin_add,←Int.natCast_add,wrapu32 (by omega) (by simp only [B] at h;omega)]
theorem len_lt {x y:Nat} (hxy:x≤y):(ofN x).length≤(ofN y).length:=
 len_ofN (Nat.lt_of_le_of_lt hxy (lt_of_len (Nat.le_refl _)))
theorem v164 {d d':D} (nl n2:Bool) (a:List Nat) (y:Nat) (hd:strip d=eLims nl a .ro) (hd':strip d'=eLims n2 (ofN y) .ro) (la:Lim a) (h1:a.length≤400) (h2:(ofN y).length≤400) (hy:0<y) :
  isoCall (call dp) 164 [d,d']=some (.tup [eLims false (ofN (val a / y)) .ro,eLims false (ofN (val a % y)) .ro]):=by
 apply i164 _ _ _ (by simp [hd,hd',noRefL]) (by simp [noRef,noRefL])
 have hmul:binD .mul .num (.i .i64 32) (.i .i64 (a.length:Int))=some (.i .i64 ((32 * a.length:Nat):Int)):=by
  have e:(32:Int) * (a.length:Int)=((32 * a.length:Nat):Int):=by omega
  simp only [binD,intOp,if_true]
  rw [e,wrapN (by omega)]
 have hsb:binD .sub .num (.i .i64 ((32 * a.length:Nat):Int)) (.i .i64 1)=some (.i .i64 (((32 * a.length:Nat):Int)-1)):=by rw [bin_sub,wrap64 ⟨by omega,by omega⟩]
 have hA:val a<2 ^ (32 * a.length):=by
  have:=val_lt la
  rwa [B_two,←Nat.pow_mul] at this
 simp only [s164,hd,hd',OX_some,len_lims,mksl_lims (S:=[]) (n:=a.length) (by unfold maxLenD;omega),List.length_nil,cellsV_nil,bslO_nil,hmul,hsb]
 generalize hR:QS (call dp) c164_r0 _=R
 refine W_loop (J164 nl n2 a y) ?_ (32 * a.length) _ _ ⟨_,.top,.top,_,.top,Nat.le_refl _,List.length_replicate,lim_zeros _,by rw [val_zeros,Nat.div_eq_of_lt hA];simp,by rw [Nat.div_eq_of_lt hA,Nat.zero_mod,ofN_zero];rfl,rfl,rfl⟩
 rintro k fr S ⟨q,a4,a5,a7,a18,hk,lq,hL,hq,h7,rfl,rfl⟩
 rw [←wp_W,e164_0]
 have l0:sget [Ent.box (eCells q)] 0=some (.box (eCells q)):=rfl
 cases k with
 | zero=>
  have hg:binD .geq .num (.i .i64 (((0:Nat):Int)-1)) (.i .i64 0)=some (.b false):=by rw [bin_geq];rfl
  rw [Nat.pow_zero,Nat.div_one,Nat.mul_one] at hq
  rw [Nat.pow_zero,Nat.div_one] at h7
  have hf:=fz_lims l0
  rw [lq] at hf
  have h138:=v138 false q (strip_lims false q .ro) hL (by omega)
  rw [hq] at h138
  simp only [s164_0,hg,OX_some,WB_false,Qseq_exit,Qblk_same]
  rw [←hR]
  simp only [QS_normal,e164_r0,s164_r0,hf,h138,OX_some]
  rw [FinK_ret2]
  show D.tup [_,strip a7]=_
  rw [h7]
  rfl
 | succ i=>
  have e1:((i+1:Nat):Int)-1=i:=by omega
  have hs32:i % 32<32:=Nat.mod_lt _ (by decide)
  have hi32:i / 32<a.length:=by omega
  have hr:val a / 2 ^ (i+1) % y<y:=Nat.mod_lt _ hy
  obtain ⟨b1,b2⟩:=bit_step (a:=val a) (i:=i) hy rfl
  have hbit:=bit_val la i
  have hlr:=len_lt (Nat.le_of_lt hr)
  have hdbl:(ofN (val a / 2 ^ (i+1) % y+val a / 2 ^ (i+1) % y)).length≤450:=by
   refine len_ofN ?_
   obtain ⟨K,hK⟩:∃ K,K=400:=⟨400,rfl⟩
   obtain ⟨M,hM⟩:∃ M,M=450:=⟨450,rfl⟩
   rw [←hM]
   rw [←hK] at h2
   have h3:=lt_of_len h2
   have h4:B ^ (K+1)≤B ^ M:=Nat.pow_le_pow_right B_pos (by omega)
   rw [Nat.pow_succ] at h4
   generalize B ^ K=P at *
   generalize B ^ M=P' at *
   generalize val a / 2 ^ (i+1) % y=r at *
   simp only [B] at h4
   omega
  have hA1:=v162 false false _ _ h7 h7 (by omega) (by omega)
  have hquo:=quoI (a:=i) (b:=32) (by decide) (by omega)
  have hrem:=remI (a:=i) (b:=32) (by decide)
  have hr2:=remK (k:=.u32) (a:=dg a (i / 32) / 2 ^ (i % 32)) (b:=2) (by decide)
  rw [hbit] at hr2
  simp only [show ((32:Nat):Int)=32 from rfl] at hquo hrem
  simp only [show ((2:Nat):Int)=2 from rfl] at hr2
  have hsub1:binD .sub .num (.i .i64 (i:Int)) (.i .i64 1)=some (.i .i64 ((i:Int)-1)):=by rw [bin_sub,wrap64 ⟨by omega,by omega⟩]
  have hcell:cellsV 1 false [D.i .u32 1]=some [[.i .u32 1]]:=cellsV_i _ _
  have hone:strip (.sl 1 false [[.i .u32 1]] .ro)=eLims false (ofN 1) .ro:=by rw [ofN_one];rfl
  have hl1:(ofN 1).length≤500:=by rw [ofN_one];simp
  generalize hrr:val a / 2 ^ (i+1) % y=r at *
  have hroom:=bit_room hL (X:=val a / 2 ^ (i+1) / y) (i:=i) hq
  have tail:∀ (R2:Nat) (d7:D) (z:D),strip d7=eLims false (ofN R2) .ro→(ofN R2).length≤500→R2=2 * r+val a / 2 ^ i % 2 →
    (OX (isoCall (call dp) 101 [d7,eLims n2 (ofN y) .ro]) fun x22=>
     OX (binD .geq .num x22 (.i .i64 0)) fun x23=>
     WB x23
     (OX (isoCall (call dp) 102 [d7,eLims n2 (ofN y) .ro]) fun x35=>
      OX (binD .quo .num (.i .i64 i) (.i .i64 32)) fun x36=>
      OX (binD .quo .num (.i .i64 i) (.i .i64 32)) fun x37=>
      OX (iaD 1 (.ar 1 0 0 a.length) x37) fun x38=>
      OX (ldD [Ent.box (eCells q)] 1 false x38) fun x39=>
      OX (binD .rem .num (.i .i64 i) (.i .i64 32)) fun x40=>
      OX (binD .shl .num (.i .u32 1) x40) fun x41=>
      OX (binD .add .num x39 x41) fun x42=>
      OX (iaD 1 (.ar 1 0 0 a.length) x36) fun x43=>
      OX (stD [Ent.box (eCells q)] 1 false x43 x42) fun S45=>
      OX (binD .sub .num (.i .i64 i) (.i .i64 1)) fun x34=>
      Qseq (fun fr' S'=>∃ m',m'<i+1∧J164 nl n2 a y m' fr' S') (Qblk 0 R) .normal (mkf 60 [(0,eLims nl a .ro),(1,eLims n2 (ofN y) .ro),(4,a4),(5,a5),(6,.ar 1 0 0 a.length),(7,x35),(8,x34),(18,.top)]) S45)
     (OX (binD .sub .num (.i .i64 i) (.i .i64 1)) fun x34=>
      Qseq (fun fr' S'=>∃ m',m'<i+1∧J164 nl n2 a y m' fr' S') (Qblk 0 R) .normal (mkf 60 [(0,eLims nl a .ro),(1,eLims n2 (ofN y) .ro),(4,a4),(5,a5),(6,.ar 1 0 0 a.length),(7,d7),(8,x34),(18,.top)]) [.box (eCells q)])):=by
   intro R2 d7 z hs7 hl7 hR2
   rw [←hR2] at b1 b2
   have hsg:binD .geq .num (.i .i64 (sgn R2 y)) (.i .i64 0)=some (.b (decide (y≤R2))):=by
    rw [bin_geq]
    congr 2
    unfold sgn
    by_cases h:R2<y
    ·rw [if_pos h];simp;omega
    ·rw [if_neg h]
     by_cases h':R2=y
     ·rw [if_pos h'];simp;omega
     ·rw [if_neg h'];simp;omega
   simp only [v101 false n2 R2 y hs7 (strip_lims _ _ _) (by omega) (by omega),OX_some,hsg]
   by_cases hge:y≤R2
   ·rw [if_pos hge] at b1 b2
    simp only [hge,decide_true,WB_true,v102 false n2 R2 y hs7 (strip_lims _ _ _) hl7 hge,OX_some,hquo,hrem,ia_ar hi32,Nat.zero_add,ld_cells l0 (show i / 32<q.length by omega),shl1 hs32,add32 hroom,st_cells l0 (show i / 32<q.length by omega),hsub1,Qseq_normal]
    refine ⟨i,by omega,q.set (i / 32) _,a4,a5,_,.top,by omega,by simpa using lq,lim_set hL hroom,?_,?_,rfl,rfl⟩
    ·have h3:=val_set (l:=q) (i:=i / 32) (dg q (i / 32)+2 ^ (i % 32)) (by omega)
     rw [b2,Nat.add_mul,Nat.one_mul]
     have h4:2 ^ i=B ^ (i / 32) * 2 ^ (i % 32):=pow_split i
     have h5:2 * (val a / 2 ^ (i+1) / y) * 2 ^ i=val a / 2 ^ (i+1) / y * 2 ^ (i+1):=by rw [Nat.pow_succ,Nat.mul_comm 2,Nat.mul_assoc,Nat.mul_comm 2]
     rw [h5,←hq,h4]
     rw [Nat.mul_add] at h3
     omega
    ·rw [b1];rfl
   ·rw [if_neg hge] at b1 b2
    simp only [hge,decide_false,WB_false,hsub1,OX_some,Qseq_normal]
    refine ⟨i,by omega,q,a4,a5,d7,.top,by omega,lq,hL,?_,?_,rfl,rfl⟩
    ·rw [b2,Nat.add_zero,hq,Nat.pow_succ,Nat.mul_comm 2,Nat.mul_assoc,Nat.mul_comm 2]
    ·rw [b1];exact hs7
  rw [e1]
  have h2:r+r=2 * r:=by omega
  rw [h2] at hA1 hdbl
  simp only [s164_0,jn,geq0_nat,OX_some,WB_true,hA1,hquo,hrem,ia_lims hi32,ld_el1,bit32 hs32,hr2,eql1_nat]
  by_cases hb:val a / 2 ^ i % 2=1
  ·have hA2:=v162 false false (2 * r) 1 (strip_lims false _ .ro) hone (by omega) hl1
   have hl2:(ofN (2 * r+1)).length≤500:=by
    have:=len_ofN (n:=2 * r+1) (k:=500) (by
     obtain ⟨K,hK⟩:∃ K,K=450:=⟨450,rfl⟩
     obtain ⟨M,hM⟩:∃ M,M=500:=⟨500,rfl⟩
     rw [←hM]
     rw [←hK] at hdbl
     have h3:=lt_of_len hdbl
     have h4:B ^ (K+1)≤B ^ M:=Nat.pow_le_pow_right B_pos (by omega)
     rw [Nat.pow_succ] at h4
     generalize B ^ K=P at *
     generalize B ^ M=P' at *
     simp only [B] at h4
     omega)
    exact this
   have ht:=tail (2 * r+1) (eLims false (ofN (2 * r+1)) .ro) .top (strip_lims _ _ _) hl2 (by rw [hb])
   simp only [OX_some,hquo,hrem] at ht
   simp only [hb,decide_true,WB_true,hcell,OX_some,hA2]
   exact ht
  ·have hb0:val a / 2 ^ i % 2=0:=by omega
   have ht:=tail (2 * r) (eLims false (ofN (2 * r)) .ro) .top (strip_lims _ _ _) (by omega) (by rw [hb0];rfl)
   simp only [OX_some,hquo,hrem] at ht
   simp only [hb,decide_false,WB_false]
   exact ht
def J109 (g:Nat):Nat→List D→Store→Prop:=fun y fr S=>∃ x n1 n2 a4 a9,Lt128 x∧Lt128 y∧Nat.gcd x y=g∧S=[]∧fr=mkf 19 [(0,eLims n1 (ofN x) .ro),(1,eLims n2 (ofN y) .ro),(4,a4),(9,a9)]∧(NF n1 (ofN x)∧NF n2 (ofN y))
theorem v109 (nl nl':Bool) (x y:Nat) (hx:Lt128 x) (hy:Lt128 y) (hn:NF nl (ofN x)) (hn':NF nl' (ofN y)) :
  ∃ n,isoCall (call dp) 109 [eLims nl (ofN x) .ro,eLims nl' (ofN y) .ro]=some (eLims n (ofN (Nat.gcd x y)) .ro)∧NF n (ofN (Nat.gcd x y)):=by
 obtain ⟨r,e,n,rfl,f⟩:=j109 (eLims nl (ofN x) .ro) (eLims nl' (ofN y) .ro) (fun d=>∃ n,d=eLims n (ofN (Nat.gcd x y)) .ro∧NF n (ofN (Nat.gcd x y))) (by simp [noRefL]) (by rintro _ ⟨n,rfl,_⟩;simp) (by
  simp only [s109,strip_lims]
  generalize hR:QS (call dp) c109_r0 _=R
  refine W_loop (J109 (Nat.gcd x y)) ?_ y _ _ ⟨x,nl,nl',.top,.top,hx,hy,rfl,rfl,rfl,hn,hn'⟩
  rintro y' fr S ⟨x',n1,n2,a4,a9,hx',hy',hg,rfl,rfl,f1,f2⟩
  rw [←wp_W,e109_0]
  by_cases h0:y'=0
  ·subst h0
   have hgt:binD .gtr .num (.i .i64 ((ofN 0).length:Int)) (.i .i64 0)=some (.b false):=by rw [ofN_zero,bin_gtr];rfl
   simp only [s109_0,len_lims,OX_some,hgt,WB_false,Qseq_exit,Qblk_same]
   rw [←hR]
   rw [Nat.gcd_zero_right] at hg
   subst hg
   simp only [QS_normal,e109_r0,s109_r0]
   simp only [FinK,finR]
   exact ⟨n1,rfl,f1⟩
  ·have hne:ofN y'≠[]:=fun e=>h0 (ofN_nil.1 e)
   have hlen:0<(ofN y').length:=List.length_pos_iff.2 hne
   have l1:=(lt128_iff _).1 hx'
   have l2:=(lt128_iff _).1 hy'
   have e:=v164 n1 n2 (ofN x') y' (strip_lims n1 _ .ro) (strip_lims n2 _ .ro) (lim_ofN x') (by omega) (by omega) (by omega)
   rw [val_ofN] at e
   have hlt:x' % y'<y':=Nat.mod_lt _ (by omega)
   simp only [s109_0,len_lims,OX_some,gtr0_nat,hlen,decide_true,WB_true,e,ext_eq,List.getElem?_cons_zero,List.getElem?_cons_succ,Qseq_normal]
   refine ⟨x' % y',hlt,y',n2,false,a4,.top,hy',Nat.lt_trans hlt hy',?_,rfl,rfl,f2,fun h=>(by cases h)⟩
   rw [Nat.gcd_comm y',←hg,Nat.gcd_comm x',Nat.gcd_rec y' x'])
 exact ⟨n,e,f⟩
end Go.Proofs.YtjniafcnjbbomaaGreatDoor.DE.V

namespace Go.Proofs.YtjniafcnjbbomaaGreatDoor.DE
open Go
def s53 (cf:CallF) (a0:D) (S:Store) (Post:D→Store→Prop):Prop:=
 bxx 2 true a0 S fun x1 S2=>
 OX (faD 0 x1) fun x3=>
 OX (ldD S2 1 false x3) fun x4=>
 OX (isoCall cf 105 [x4]) fun x5=>
 OX (gsel x5 true (faD 1 x1)) fun x6=>
 OX (gsel x5 true (ldD S2 1 false x6)) fun x7=>
 OX (gsel x5 true (isoCall cf 105 [x7])) fun x8=>
 OX (pickD x5 x8 (.b false)) fun x9=>
 OX (gsel x9 true (faD 1 x1)) fun x10=>
 OX (gsel x9 true (ldD S2 1 false x10)) fun x11=>
 OX (gsel x9 true (lenD false x11)) fun x12=>
 OX (gsel x9 true (binD .gtr .num x12 (.i .i64 0))) fun x13=>
 OX (pickD x9 x13 (.b false)) fun x14=>
 OX (gsel x14 true (faD 0 x1)) fun x15=>
 OX (gsel x14 true (ldD S2 1 false x15)) fun x16=>
 OX (gsel x14 true (faD 1 x1)) fun x17=>
 OX (gsel x14 true (ldD S2 1 false x17)) fun x18=>
 OX (gsel x14 true (isoCall cf 107 [x16,x18])) fun x19=>
 OX (gsel x14 true (isoCall cf 83 [(.i .u64 1)])) fun x20=>
 OX (gsel x14 true (isoCall cf 106 [x19,x20])) fun x21=>
 OX (pickD x14 x21 (.b false)) fun x22=>
 Post x22 S2
theorem e53 (cf:CallF) (a0:D) (S:Store) (Post:D→Store→Prop):wp cf c53 (frame0 d53 [a0]) S (FinK d53.res Post)=s53 cf a0 S Post:=wpS_of (by kernel_rfl)
theorem i53 (a0:D) (r:D) (ha:noRefL (stripL [a0])=true) (hr:noRef r=true) (h:s53 (call dp) (strip a0) [] fun d _=>stripT d=r):isoCall (call dp) 53 [a0]=some r:=iso_s (f:=d53) rfl ⟨rfl,by decide⟩ ha hr (by rw [←e53] at h;exact h)
def s71 (cf:CallF) (a0:D) (a1:D) (S:Store) (Post:D→Store→Prop):Prop:=
 al [.sl 1 true [] .ro,.sl 1 true [] .ro] S fun x1 S2=>
 OX (isoCall cf 105 [a0]) fun x3=>
 OX (unD .not x3) fun x4=>
 OX (gsel x4 false (some a1)) fun x5=>
 OX (gsel x4 false (isoCall cf 105 [x5])) fun x6=>
 OX (gsel x4 false (unD .not x6)) fun x7=>
 OX (pickD x4 (.b true) x7) fun x8=>
 OX (gsel x8 false (some a1)) fun x9=>
 OX (gsel x8 false (lenD false x9)) fun x10=>
 OX (gsel x8 false (binD .eql .num x10 (.i .i64 0))) fun x11=>
 OX (pickD x8 (.b true) x11) fun x12=>
 WB x12
 (OX (bldV [.sl 1 true [] .ro,.sl 1 true [] .ro] []) fun x13=>
 OX (stD S2 2 true x1 (.agg x13)) fun S15=>
 OX (ldc S15 2 true x1) fun x16=>Post (.tup [x16,(.i .i64 1)]) S15)
 (OX (isoCall cf 107 [a0,a1]) fun x17=>
 OX (isoCall cf 135 [a0,x17]) fun x18=>
 OX (extD x18 0) fun x19=>
 OX (extD x18 1) fun x20=>
 OX (extD x18 2) fun x21=>
 OX (isoCall cf 135 [a1,x17]) fun x22=>
 OX (extD x22 0) fun x23=>
 OX (extD x22 1) fun x24=>
 OX (extD x22 2) fun x25=>
 OX (bldV [.sl 1 true [] .ro,.sl 1 true [] .ro] [(0,1,false,x19),(1,1,false,x23)]) fun x26=>
 OX (stD S2 2 true x1 (.agg x26)) fun S28=>
 OX (ldc S28 2 true x1) fun x29=>Post (.tup [x29,(.i .i64 0)]) S28)
theorem e71 (cf:CallF) (a0:D) (a1:D) (S:Store) (Post:D→Store→Prop):wp cf c71 (frame0 d71 [a0,a1]) S (FinK d71.res Post)=s71 cf a0 a1 S Post:=wpS_of (by kernel_rfl)
theorem j71 (a0:D) (a1:D) (Post:D→Prop) (ha:noRefL (stripL [a0,a1])=true) (hr:∀ r,Post r→noRef r=true) (h:s71 (call dp) (strip a0) (strip a1) [] fun d _=>Post (stripT d)):∃ r,isoCall (call dp) 71 [a0,a1]=some r∧Post r:=iso_x (f:=d71) rfl ⟨rfl,by decide⟩ ha hr (by rw [←e71] at h;exact h)
def s79_r0 (cf:CallF) (a2:D) (a3:D) (a4:D) (a9:D) (a10:D) (a11:D) (a12:D) (S:Store) (Q:Ex→List D→Store→Prop):Prop:=
 Q .ret (mkf 31 [(2,a4),(3,(.b true)),(4,.top),(9,.top),(10,.top),(11,.top),(12,.top)]) S
theorem e79_r0 (cf:CallF) (a2:D) (a3:D) (a4:D) (a9:D) (a10:D) (a11:D) (a12:D) (S:Store) (Q:Ex→List D→Store→Prop):wp cf c79_r0 (mkf 31 [(2,a2),(3,a3),(4,a4),(9,a9),(10,a10),(11,a11),(12,a12)]) S Q=s79_r0 cf a2 a3 a4 a9 a10 a11 a12 S Q:=wpS_of (by kernel_rfl)
def s79_0 (cf:CallF) (a2:D) (a3:D) (a4:D) (a9:D) (a10:D) (a11:D) (a12:D) (S:Store) (Q:Ex→List D→Store→Prop):Prop:=
 OX (binD .lss .num a11 a10) fun x1=>
 WB x1
 (OX (iaD 2 a9 a11) fun x2=>
 OX (ldD S 2 true x2) fun x3=>
 al [.sl 1 true [] .ro,.sl 1 true [] .ro] S fun x4 S5=>
 OX (stD S5 2 true x4 x3) fun S7=>
 OX (iaaD 2 1 x4 (.i .i64 0)) fun x8=>
 OX (ldD S7 1 false x8) fun x9=>
 OX (iaaD 2 1 x4 (.i .i64 1)) fun x10=>
 OX (ldD S7 1 false x10) fun x11=>
 OX (isoCall cf 70 [x9,x11]) fun x12=>
 OX (extD x12 0) fun x13=>
 OX (extD x12 1) fun x14=>
 OX (binD .neq .num x14 (.i .i64 0)) fun x15=>
 WB x15
 (Q .ret (mkf 31 [(2,(.sl 1 true [] .ro)),(3,(.b false)),(4,.top),(9,.top),(10,.top),(11,.top),(12,.top)]) S7)
 (OX (cellsV 1 false [x13]) fun x16=>
 OX (appD 1 false a4 (.sl 1 false x16 .ro) S7) fun p18=>
 OX (binD .add .num a11 (.i .i64 1)) fun x19=>
 Q .normal (mkf 31 [(2,a2),(3,a3),(4,p18.1),(9,a9),(10,a10),(11,x19),(12,.top)]) p18.2))
 (Q (.exit 0) (mkf 31 [(2,a2),(3,a3),(4,a4),(9,a9),(10,a10),(11,a11),(12,x1)]) S)
theorem e79_0 (cf:CallF) (a2:D) (a3:D) (a4:D) (a9:D) (a10:D) (a11:D) (a12:D) (S:Store) (Q:Ex→List D→Store→Prop):wp cf c79_0 (fkill (mkf 31 [(2,a2),(3,a3),(4,a4),(9,a9),(10,a10),(11,a11),(12,a12)]) []) S Q=s79_0 cf a2 a3 a4 a9 a10 a11 a12 S Q:=wpS_of (by kernel_rfl)
def s79 (cf:CallF) (a0:D) (S:Store) (Post:D→Store→Prop):Prop:=
 OX (lenD false a0) fun x20=>
 W cf (.loop [] c79_0) (mkf 31 [(2,.top),(3,.top),(4,(.sl 1 true [] .ro)),(9,a0),(10,x20),(11,(.i .i64 0)),(12,.top)]) S (Qblk 0 (QS cf c79_r0 (FinK [.t 2,.t 3] Post)))
theorem e79 (cf:CallF) (a0:D) (S:Store) (Post:D→Store→Prop):wp cf c79 (frame0 d79 [a0]) S (FinK d79.res Post)=s79 cf a0 S Post:=wpS_of (by kernel_rfl)
theorem i79 (a0:D) (r:D) (ha:noRefL (stripL [a0])=true) (hr:noRef r=true) (h:s79 (call dp) (strip a0) [] fun d _=>stripT d=r):isoCall (call dp) 79 [a0]=some r:=iso_s (f:=d79) rfl ⟨rfl,by decide⟩ ha hr (by rw [←e79] at h;exact h)
def s27 (cf:CallF) (a0:D) (a1:D) (S:Store) (Post:D→Store→Prop):Prop:=
 bxx 2 true a0 S fun x1 S2=>
 bxx 2 true a1 S2 fun x3 S4=>
 al [.sl 1 true [] .ro,.sl 1 true [] .ro] S4 fun x5 S6=>
 OX (ldD S6 2 true x1) fun x7=>
 OX (isoCall cf 53 [x7]) fun x8=>
 OX (unD .not x8) fun x9=>
 OX (gsel x9 false (ldD S6 2 true x3)) fun x10=>
 OX (gsel x9 false (isoCall cf 53 [x10])) fun x11=>
 OX (gsel x9 false (unD .not x11)) fun x12=>
 OX (pickD x9 (.b true) x12) fun x13=>
 WB x13
 (OX (bldV [.sl 1 true [] .ro,.sl 1 true [] .ro] []) fun x14=>
 OX (stD S6 2 true x5 (.agg x14)) fun S16=>
 OX (ldc S16 2 true x5) fun x17=>Post (.tup [x17,(.i .i64 1)]) S16)
 (OX (faD 0 x1) fun x18=>
 OX (ldD S6 1 false x18) fun x19=>
 OX (faD 1 x3) fun x20=>
 OX (ldD S6 1 false x20) fun x21=>
 OX (bldV [.sl 1 true [] .ro,.sl 1 true [] .ro] [(0,1,false,x19),(1,1,false,x21)]) fun x22=>
 OX (faD 0 x3) fun x23=>
 OX (ldD S6 1 false x23) fun x24=>
 OX (faD 1 x1) fun x25=>
 OX (ldD S6 1 false x25) fun x26=>
 OX (bldV [.sl 1 true [] .ro,.sl 1 true [] .ro] [(0,1,false,x24),(1,1,false,x26)]) fun x27=>
 OX (faD 1 x1) fun x28=>
 OX (ldD S6 1 false x28) fun x29=>
 OX (faD 1 x3) fun x30=>
 OX (ldD S6 1 false x30) fun x31=>
 OX (bldV [.sl 1 true [] .ro,.sl 1 true [] .ro] [(0,1,false,x29),(1,1,false,x31)]) fun x32=>
 OX (cellsV 2 true [(.agg x22),(.agg x27),(.agg x32)]) fun x33=>
 OX (isoCall cf 79 [(.sl 2 false x33 .ro)]) fun x34=>
 OX (extD x34 0) fun x35=>
 OX (extD x34 1) fun x36=>
 OX (unD .not x36) fun x37=>
 WB x37
 (OX (bldV [.sl 1 true [] .ro,.sl 1 true [] .ro] []) fun x38=>
 OX (stD S6 2 true x5 (.agg x38)) fun S40=>
 OX (ldc S40 2 true x5) fun x41=>Post (.tup [x41,(.i .i64 6)]) S40)
 (OX (iaD 1 x35 (.i .i64 0)) fun x42=>
 OX (ldD S6 1 false x42) fun x43=>
 OX (iaD 1 x35 (.i .i64 1)) fun x44=>
 OX (ldD S6 1 false x44) fun x45=>
 OX (isoCall cf 80 [x43,x45]) fun x46=>
 OX (extD x46 0) fun x47=>
 OX (extD x46 1) fun x48=>
 OX (binD .neq .num x48 (.i .i64 0)) fun x49=>
 WB x49
 (OX (bldV [.sl 1 true [] .ro,.sl 1 true [] .ro] []) fun x50=>
 OX (stD S6 2 true x5 (.agg x50)) fun S52=>
 OX (ldc S52 2 true x5) fun x53=>Post (.tup [x53,x48]) S52)
 (OX (iaD 1 x35 (.i .i64 2)) fun x54=>
 OX (ldD S6 1 false x54) fun x55=>
 OX (isoCall cf 71 [x47,x55]) fun x56=>
 OX (extD x56 0) fun x57=>
 OX (extD x56 1) fun x58=>
 OX (stD S6 2 true x5 x57) fun S60=>
 OX (ldc S60 2 true x5) fun x61=>Post (.tup [x61,x58]) S60)))
theorem e27 (cf:CallF) (a0:D) (a1:D) (S:Store) (Post:D→Store→Prop):wp cf c27 (frame0 d27 [a0,a1]) S (FinK d27.res Post)=s27 cf a0 a1 S Post:=wpS_of (by kernel_rfl)
theorem j27 (a0:D) (a1:D) (Post:D→Prop) (ha:noRefL (stripL [a0,a1])=true) (hr:∀ r,Post r→noRef r=true) (h:s27 (call dp) (strip a0) (strip a1) [] fun d _=>Post (stripT d)):∃ r,isoCall (call dp) 27 [a0,a1]=some r∧Post r:=iso_x (f:=d27) rfl ⟨rfl,by decide⟩ ha hr (by rw [←e27] at h;exact h)
def s29 (cf:CallF) (a0:D) (a1:D) (S:Store) (Post:D→Store→Prop):Prop:=
 bxx 2 true a0 S fun x1 S2=>
 bxx 2 true a1 S2 fun x3 S4=>
 al [.sl 1 true [] .ro,.sl 1 true [] .ro] S4 fun x5 S6=>
 OX (ldD S6 2 true x1) fun x7=>
 OX (isoCall cf 53 [x7]) fun x8=>
 OX (unD .not x8) fun x9=>
 OX (gsel x9 false (ldD S6 2 true x3)) fun x10=>
 OX (gsel x9 false (isoCall cf 53 [x10])) fun x11=>
 OX (gsel x9 false (unD .not x11)) fun x12=>
 OX (pickD x9 (.b true) x12) fun x13=>
 WB x13
 (OX (bldV [.sl 1 true [] .ro,.sl 1 true [] .ro] []) fun x14=>
 OX (stD S6 2 true x5 (.agg x14)) fun S16=>
 OX (ldc S16 2 true x5) fun x17=>Post (.tup [x17,(.i .i64 1)]) S16)
 (OX (faD 0 x1) fun x18=>
 OX (ldD S6 1 false x18) fun x19=>
 OX (faD 0 x3) fun x20=>
 OX (ldD S6 1 false x20) fun x21=>
 OX (bldV [.sl 1 true [] .ro,.sl 1 true [] .ro] [(0,1,false,x19),(1,1,false,x21)]) fun x22=>
 OX (faD 1 x1) fun x23=>
 OX (ldD S6 1 false x23) fun x24=>
 OX (faD 1 x3) fun x25=>
 OX (ldD S6 1 false x25) fun x26=>
 OX (bldV [.sl 1 true [] .ro,.sl 1 true [] .ro] [(0,1,false,x24),(1,1,false,x26)]) fun x27=>
 OX (cellsV 2 true [(.agg x22),(.agg x27)]) fun x28=>
 OX (isoCall cf 79 [(.sl 2 false x28 .ro)]) fun x29=>
 OX (extD x29 0) fun x30=>
 OX (extD x29 1) fun x31=>
 OX (unD .not x31) fun x32=>
 WB x32
 (OX (bldV [.sl 1 true [] .ro,.sl 1 true [] .ro] []) fun x33=>
 OX (stD S6 2 true x5 (.agg x33)) fun S35=>
 OX (ldc S35 2 true x5) fun x36=>Post (.tup [x36,(.i .i64 6)]) S35)
 (OX (iaD 1 x30 (.i .i64 0)) fun x37=>
 OX (ldD S6 1 false x37) fun x38=>
 OX (iaD 1 x30 (.i .i64 1)) fun x39=>
 OX (ldD S6 1 false x39) fun x40=>
 OX (isoCall cf 71 [x38,x40]) fun x41=>
 OX (extD x41 0) fun x42=>
 OX (extD x41 1) fun x43=>
 OX (stD S6 2 true x5 x42) fun S45=>
 OX (ldc S45 2 true x5) fun x46=>Post (.tup [x46,x43]) S45))
theorem e29 (cf:CallF) (a0:D) (a1:D) (S:Store) (Post:D→Store→Prop):wp cf c29 (frame0 d29 [a0,a1]) S (FinK d29.res Post)=s29 cf a0 a1 S Post:=wpS_of (by kernel_rfl)
theorem j29 (a0:D) (a1:D) (Post:D→Prop) (ha:noRefL (stripL [a0,a1])=true) (hr:∀ r,Post r→noRef r=true) (h:s29 (call dp) (strip a0) (strip a1) [] fun d _=>Post (stripT d)):∃ r,isoCall (call dp) 29 [a0,a1]=some r∧Post r:=iso_x (f:=d29) rfl ⟨rfl,by decide⟩ ha hr (by rw [←e29] at h;exact h)
def s95 (cf:CallF) (a0:D) (S:Store) (Post:D→Store→Prop):Prop:=
 bxx 2 true a0 S fun x1 S2=>
 al [.sl 1 true [] .ro,.sl 1 true [] .ro] S2 fun x3 S4=>
 OX (ldD S4 2 true x1) fun x5=>
 OX (isoCall cf 53 [x5]) fun x6=>
 OX (unD .not x6) fun x7=>
 WB x7
 (OX (bldV [.sl 1 true [] .ro,.sl 1 true [] .ro] []) fun x8=>
 OX (stD S4 2 true x3 (.agg x8)) fun S10=>
 OX (ldc S10 2 true x3) fun x11=>Post (.tup [x11,(.i .i64 1)]) S10)
 (OX (faD 1 x1) fun x12=>
 OX (ldD S4 1 false x12) fun x13=>
 OX (faD 0 x1) fun x14=>
 OX (ldD S4 1 false x14) fun x15=>
 OX (isoCall cf 161 [x13,x15]) fun x16=>
 OX (extD x16 0) fun x17=>
 OX (extD x16 1) fun x18=>
 OX (unD .not x18) fun x19=>
 WB x19
 (OX (bldV [.sl 1 true [] .ro,.sl 1 true [] .ro] []) fun x20=>
 OX (stD S4 2 true x3 (.agg x20)) fun S22=>
 OX (ldc S22 2 true x3) fun x23=>Post (.tup [x23,(.i .i64 2)]) S22)
 (OX (faD 1 x1) fun x24=>
 OX (ldD S4 1 false x24) fun x25=>
 OX (isoCall cf 71 [x17,x25]) fun x26=>
 OX (extD x26 0) fun x27=>
 OX (extD x26 1) fun x28=>
 OX (stD S4 2 true x3 x27) fun S30=>
 OX (ldc S30 2 true x3) fun x31=>Post (.tup [x31,x28]) S30))
theorem e95 (cf:CallF) (a0:D) (S:Store) (Post:D→Store→Prop):wp cf c95 (frame0 d95 [a0]) S (FinK d95.res Post)=s95 cf a0 S Post:=wpS_of (by kernel_rfl)
theorem j95 (a0:D) (Post:D→Prop) (ha:noRefL (stripL [a0])=true) (hr:∀ r,Post r→noRef r=true) (h:s95 (call dp) (strip a0) [] fun d _=>Post (stripT d)):∃ r,isoCall (call dp) 95 [a0]=some r∧Post r:=iso_x (f:=d95) rfl ⟨rfl,by decide⟩ ha hr (by rw [←e95] at h;exact h)
def s30 (cf:CallF) (a0:D) (S:Store) (Post:D→Store→Prop):Prop:=
 bxx 2 true a0 S fun x1 S2=>
 OX (ldD S2 2 true x1) fun x3=>
 OX (isoCall cf 53 [x3]) fun x4=>
 OX (gsel x4 true (faD 0 x1)) fun x5=>
 OX (gsel x4 true (ldD S2 1 false x5)) fun x6=>
 OX (gsel x4 true (faD 1 x1)) fun x7=>
 OX (gsel x4 true (ldD S2 1 false x7)) fun x8=>
 OX (gsel x4 true (isoCall cf 82 [x6,x8])) fun x9=>
 OX (gsel x4 true (binD .leq .num x9 (.i .i64 0))) fun x10=>
 OX (pickD x4 x10 (.b false)) fun x11=>
 Post x11 S2
theorem e30 (cf:CallF) (a0:D) (S:Store) (Post:D→Store→Prop):wp cf c30 (frame0 d30 [a0]) S (FinK d30.res Post)=s30 cf a0 S Post:=wpS_of (by kernel_rfl)
theorem i30 (a0:D) (r:D) (ha:noRefL (stripL [a0])=true) (hr:noRef r=true) (h:s30 (call dp) (strip a0) [] fun d _=>stripT d=r):isoCall (call dp) 30 [a0]=some r:=iso_s (f:=d30) rfl ⟨rfl,by decide⟩ ha hr (by rw [←e30] at h;exact h)
def s81 (cf:CallF) (a0:D) (S:Store) (Post:D→Store→Prop):Prop:=
 al [.sl 1 true [] .ro,.sl 1 true [] .ro] S fun x1 S2=>
 OX (isoCall cf 83 [a0]) fun x3=>
 OX (isoCall cf 83 [(.i .u64 1)]) fun x4=>
 OX (bldV [.sl 1 true [] .ro,.sl 1 true [] .ro] [(0,1,false,x3),(1,1,false,x4)]) fun x5=>
 OX (stD S2 2 true x1 (.agg x5)) fun S7=>
 OX (ldc S7 2 true x1) fun x8=>Post x8 S7
theorem e81 (cf:CallF) (a0:D) (S:Store) (Post:D→Store→Prop):wp cf c81 (frame0 d81 [a0]) S (FinK d81.res Post)=s81 cf a0 S Post:=wpS_of (by kernel_rfl)
theorem i81 (a0:D) (r:D) (ha:noRefL (stripL [a0])=true) (hr:noRef r=true) (h:s81 (call dp) (strip a0) [] fun d _=>stripT d=r):isoCall (call dp) 81 [a0]=some r:=iso_s (f:=d81) rfl ⟨rfl,by decide⟩ ha hr (by rw [←e81] at h;exact h)
def s28 (cf:CallF)  (S:Store) (Post:D→Store→Prop):Prop:=
 al [.sl 1 true [] .ro,.sl 1 true [] .ro] S fun x1 S2=>
 OX (isoCall cf 81 [(.i .u64 1)]) fun x3=>
 OX (stD S2 2 true x1 x3) fun S5=>
 OX (ldc S5 2 true x1) fun x6=>Post x6 S5
theorem e28 (cf:CallF)  (S:Store) (Post:D→Store→Prop):wp cf c28 (frame0 d28 []) S (FinK d28.res Post)=s28 cf  S Post:=wpS_of (by kernel_rfl)
theorem i28  (r:D) (ha:noRefL (stripL [])=true) (hr:noRef r=true) (h:s28 (call dp)  [] fun d _=>stripT d=r):isoCall (call dp) 28 []=some r:=iso_s (f:=d28) rfl ⟨rfl,by decide⟩ ha hr (by rw [←e28] at h;exact h)
def s39 (cf:CallF)  (S:Store) (Post:D→Store→Prop):Prop:=
 al [.sl 1 true [] .ro,.sl 1 true [] .ro] S fun x1 S2=>
 OX (isoCall cf 81 [(.i .u64 0)]) fun x3=>
 OX (stD S2 2 true x1 x3) fun S5=>
 OX (ldc S5 2 true x1) fun x6=>Post x6 S5
theorem e39 (cf:CallF)  (S:Store) (Post:D→Store→Prop):wp cf c39 (frame0 d39 []) S (FinK d39.res Post)=s39 cf  S Post:=wpS_of (by kernel_rfl)
theorem i39  (r:D) (ha:noRefL (stripL [])=true) (hr:noRef r=true) (h:s39 (call dp)  [] fun d _=>stripT d=r):isoCall (call dp) 39 []=some r:=iso_s (f:=d39) rfl ⟨rfl,by decide⟩ ha hr (by rw [←e39] at h;exact h)
def s55 (cf:CallF) (a0:D) (S:Store) (Post:D→Store→Prop):Prop:=
 bxx 2 true a0 S fun x1 S2=>
 OX (faD 0 x1) fun x3=>
 OX (ldD S2 1 false x3) fun x4=>
 OX (isoCall cf 108 [x4]) fun x5=>
 OX (gsel x5 true (faD 1 x1)) fun x6=>
 OX (gsel x5 true (ldD S2 1 false x6)) fun x7=>
 OX (gsel x5 true (isoCall cf 108 [x7])) fun x8=>
 OX (pickD x5 x8 (.b false)) fun x9=>
 OX (gsel x9 true (faD 1 x1)) fun x10=>
 OX (gsel x9 true (ldD S2 1 false x10)) fun x11=>
 OX (gsel x9 true (lenD false x11)) fun x12=>
 OX (gsel x9 true (binD .gtr .num x12 (.i .i64 0))) fun x13=>
 OX (pickD x9 x13 (.b false)) fun x14=>
 OX (gsel x14 true (faD 0 x1)) fun x15=>
 OX (gsel x14 true (ldD S2 1 false x15)) fun x16=>
 OX (gsel x14 true (faD 1 x1)) fun x17=>
 OX (gsel x14 true (ldD S2 1 false x17)) fun x18=>
 OX (gsel x14 true (isoCall cf 109 [x16,x18])) fun x19=>
 OX (gsel x14 true ((cellsV 1 false [(.i .u32 1)]).map fun l=>.sl 1 false l .ro)) fun x20=>
 OX (gsel x14 true (isoCall cf 101 [x19,x20])) fun x21=>
 OX (gsel x14 true (binD .eql .num x21 (.i .i64 0))) fun x22=>
 OX (pickD x14 x22 (.b false)) fun x23=>
 Post x23 S2
theorem e55 (cf:CallF) (a0:D) (S:Store) (Post:D→Store→Prop):wp cf c55 (frame0 d55 [a0]) S (FinK d55.res Post)=s55 cf a0 S Post:=wpS_of (by kernel_rfl)
theorem i55 (a0:D) (r:D) (ha:noRefL (stripL [a0])=true) (hr:noRef r=true) (h:s55 (call dp) (strip a0) [] fun d _=>stripT d=r):isoCall (call dp) 55 [a0]=some r:=iso_s (f:=d55) rfl ⟨rfl,by decide⟩ ha hr (by rw [←e55] at h;exact h)
def s104 (cf:CallF) (a0:D) (a1:D) (S:Store) (Post:D→Store→Prop):Prop:=
 al [.sl 1 true [] .ro,.sl 1 true [] .ro] S fun x1 S2=>
 OX (isoCall cf 109 [a0,a1]) fun x3=>
 OX (isoCall cf 164 [a0,x3]) fun x4=>
 OX (extD x4 0) fun x5=>
 OX (extD x4 1) fun x6=>
 OX (isoCall cf 164 [a1,x3]) fun x7=>
 OX (extD x7 0) fun x8=>
 OX (extD x7 1) fun x9=>
 OX (bldV [.sl 1 true [] .ro,.sl 1 true [] .ro] [(0,1,false,x5),(1,1,false,x8)]) fun x10=>
 OX (stD S2 2 true x1 (.agg x10)) fun S12=>
 OX (ldc S12 2 true x1) fun x13=>Post x13 S12
theorem e104 (cf:CallF) (a0:D) (a1:D) (S:Store) (Post:D→Store→Prop):wp cf c104 (frame0 d104 [a0,a1]) S (FinK d104.res Post)=s104 cf a0 a1 S Post:=wpS_of (by kernel_rfl)
theorem i104 (a0:D) (a1:D) (r:D) (ha:noRefL (stripL [a0,a1])=true) (hr:noRef r=true) (h:s104 (call dp) (strip a0) (strip a1) [] fun d _=>stripT d=r):isoCall (call dp) 104 [a0,a1]=some r:=iso_s (f:=d104) rfl ⟨rfl,by decide⟩ ha hr (by rw [←e104] at h;exact h)
def s50 (cf:CallF) (a0:D) (S:Store) (Post:D→Store→Prop):Prop:=
 bxx 2 true a0 S fun x1 S2=>
 al [.sl 1 true [] .ro,.sl 1 true [] .ro] S2 fun x3 S4=>
 OX (ldD S4 2 true x1) fun x5=>
 OX (isoCall cf 55 [x5]) fun x6=>
 OX (unD .not x6) fun x7=>
 WB x7
 (OX (bldV [.sl 1 true [] .ro,.sl 1 true [] .ro] []) fun x8=>
 OX (stD S4 2 true x3 (.agg x8)) fun S10=>
 OX (ldc S10 2 true x3) fun x11=>Post (.tup [x11,(.i .i64 1)]) S10)
 (OX (faD 0 x1) fun x12=>
 OX (ldD S4 1 false x12) fun x13=>
 OX (faD 1 x1) fun x14=>
 OX (ldD S4 1 false x14) fun x15=>
 OX (isoCall cf 101 [x13,x15]) fun x16=>
 OX (binD .gtr .num x16 (.i .i64 0)) fun x17=>
 WB x17
 (OX (bldV [.sl 1 true [] .ro,.sl 1 true [] .ro] []) fun x18=>
 OX (stD S4 2 true x3 (.agg x18)) fun S20=>
 OX (ldc S20 2 true x3) fun x21=>Post (.tup [x21,(.i .i64 2)]) S20)
 (OX (faD 1 x1) fun x22=>
 OX (ldD S4 1 false x22) fun x23=>
 OX (faD 0 x1) fun x24=>
 OX (ldD S4 1 false x24) fun x25=>
 OX (isoCall cf 102 [x23,x25]) fun x26=>
 OX (faD 1 x1) fun x27=>
 OX (ldD S4 1 false x27) fun x28=>
 OX (bldV [.sl 1 true [] .ro,.sl 1 true [] .ro] [(0,1,false,x26),(1,1,false,x28)]) fun x29=>
 OX (stD S4 2 true x3 (.agg x29)) fun S31=>
 OX (ldc S31 2 true x3) fun x32=>Post (.tup [x32,(.i .i64 0)]) S31))
theorem e50 (cf:CallF) (a0:D) (S:Store) (Post:D→Store→Prop):wp cf c50 (frame0 d50 [a0]) S (FinK d50.res Post)=s50 cf a0 S Post:=wpS_of (by kernel_rfl)
theorem j50 (a0:D) (Post:D→Prop) (ha:noRefL (stripL [a0])=true) (hr:∀ r,Post r→noRef r=true) (h:s50 (call dp) (strip a0) [] fun d _=>Post (stripT d)):∃ r,isoCall (call dp) 50 [a0]=some r∧Post r:=iso_x (f:=d50) rfl ⟨rfl,by decide⟩ ha hr (by rw [←e50] at h;exact h)
def s51 (cf:CallF) (a0:D) (a1:D) (S:Store) (Post:D→Store→Prop):Prop:=
 bxx 2 true a0 S fun x1 S2=>
 bxx 2 true a1 S2 fun x3 S4=>
 al [.sl 1 true [] .ro,.sl 1 true [] .ro] S4 fun x5 S6=>
 OX (ldD S6 2 true x1) fun x7=>
 OX (isoCall cf 55 [x7]) fun x8=>
 OX (unD .not x8) fun x9=>
 OX (gsel x9 false (ldD S6 2 true x3)) fun x10=>
 OX (gsel x9 false (isoCall cf 55 [x10])) fun x11=>
 OX (gsel x9 false (unD .not x11)) fun x12=>
 OX (pickD x9 (.b true) x12) fun x13=>
 WB x13
 (OX (bldV [.sl 1 true [] .ro,.sl 1 true [] .ro] []) fun x14=>
 OX (stD S6 2 true x5 (.agg x14)) fun S16=>
 OX (ldc S16 2 true x5) fun x17=>Post (.tup [x17,(.i .i64 1)]) S16)
 (OX (faD 0 x1) fun x18=>
 OX (ldD S6 1 false x18) fun x19=>
 OX (faD 0 x3) fun x20=>
 OX (ldD S6 1 false x20) fun x21=>
 OX (isoCall cf 73 [x19,x21]) fun x22=>
 OX (faD 1 x1) fun x23=>
 OX (ldD S6 1 false x23) fun x24=>
 OX (faD 1 x3) fun x25=>
 OX (ldD S6 1 false x25) fun x26=>
 OX (isoCall cf 73 [x24,x26]) fun x27=>
 OX (isoCall cf 103 [x22]) fun x28=>
 OX (gsel x28 false (some x27)) fun x29=>
 OX (gsel x28 false (isoCall cf 103 [x29])) fun x30=>
 OX (pickD x28 (.b true) x30) fun x31=>
 WB x31
 (OX (bldV [.sl 1 true [] .ro,.sl 1 true [] .ro] []) fun x32=>
 OX (stD S6 2 true x5 (.agg x32)) fun S34=>
 OX (ldc S34 2 true x5) fun x35=>Post (.tup [x35,(.i .i64 6)]) S34)
 (OX (isoCall cf 104 [x22,x27]) fun x36=>
 OX (stD S6 2 true x5 x36) fun S38=>
 OX (ldc S38 2 true x5) fun x39=>Post (.tup [x39,(.i .i64 0)]) S38))
theorem e51 (cf:CallF) (a0:D) (a1:D) (S:Store) (Post:D→Store→Prop):wp cf c51 (frame0 d51 [a0,a1]) S (FinK d51.res Post)=s51 cf a0 a1 S Post:=wpS_of (by kernel_rfl)
theorem j51 (a0:D) (a1:D) (Post:D→Prop) (ha:noRefL (stripL [a0,a1])=true) (hr:∀ r,Post r→noRef r=true) (h:s51 (call dp) (strip a0) (strip a1) [] fun d _=>Post (stripT d)):∃ r,isoCall (call dp) 51 [a0,a1]=some r∧Post r:=iso_x (f:=d51) rfl ⟨rfl,by decide⟩ ha hr (by rw [←e51] at h;exact h)
def s99 (cf:CallF) (a0:D) (a1:D) (S:Store) (Post:D→Store→Prop):Prop:=
 bxx 2 true a0 S fun x1 S2=>
 bxx 2 true a1 S2 fun x3 S4=>
 al [.sl 1 true [] .ro,.sl 1 true [] .ro] S4 fun x5 S6=>
 OX (ldD S6 2 true x1) fun x7=>
 OX (isoCall cf 55 [x7]) fun x8=>
 OX (unD .not x8) fun x9=>
 OX (gsel x9 false (ldD S6 2 true x3)) fun x10=>
 OX (gsel x9 false (isoCall cf 55 [x10])) fun x11=>
 OX (gsel x9 false (unD .not x11)) fun x12=>
 OX (pickD x9 (.b true) x12) fun x13=>
 WB x13
 (OX (bldV [.sl 1 true [] .ro,.sl 1 true [] .ro] []) fun x14=>
 OX (stD S6 2 true x5 (.agg x14)) fun S16=>
 OX (ldc S16 2 true x5) fun x17=>Post (.tup [x17,(.i .i64 1)]) S16)
 (OX (faD 0 x1) fun x18=>
 OX (ldD S6 1 false x18) fun x19=>
 OX (faD 1 x3) fun x20=>
 OX (ldD S6 1 false x20) fun x21=>
 OX (isoCall cf 73 [x19,x21]) fun x22=>
 OX (faD 0 x3) fun x23=>
 OX (ldD S6 1 false x23) fun x24=>
 OX (faD 1 x1) fun x25=>
 OX (ldD S6 1 false x25) fun x26=>
 OX (isoCall cf 73 [x24,x26]) fun x27=>
 OX (faD 1 x1) fun x28=>
 OX (ldD S6 1 false x28) fun x29=>
 OX (faD 1 x3) fun x30=>
 OX (ldD S6 1 false x30) fun x31=>
 OX (isoCall cf 73 [x29,x31]) fun x32=>
 OX (isoCall cf 162 [x22,x27]) fun x33=>
 OX (isoCall cf 103 [x22]) fun x34=>
 OX (gsel x34 false (some x27)) fun x35=>
 OX (gsel x34 false (isoCall cf 103 [x35])) fun x36=>
 OX (pickD x34 (.b true) x36) fun x37=>
 OX (gsel x37 false (some x32)) fun x38=>
 OX (gsel x37 false (isoCall cf 103 [x38])) fun x39=>
 OX (pickD x37 (.b true) x39) fun x40=>
 OX (gsel x40 false (some x33)) fun x41=>
 OX (gsel x40 false (isoCall cf 103 [x41])) fun x42=>
 OX (pickD x40 (.b true) x42) fun x43=>
 WB x43
 (OX (bldV [.sl 1 true [] .ro,.sl 1 true [] .ro] []) fun x44=>
 OX (stD S6 2 true x5 (.agg x44)) fun S46=>
 OX (ldc S46 2 true x5) fun x47=>Post (.tup [x47,(.i .i64 6)]) S46)
 (OX (isoCall cf 104 [x33,x32]) fun x48=>
 OX (stD S6 2 true x5 x48) fun S50=>
 OX (ldc S50 2 true x5) fun x51=>Post (.tup [x51,(.i .i64 0)]) S50))
theorem e99 (cf:CallF) (a0:D) (a1:D) (S:Store) (Post:D→Store→Prop):wp cf c99 (frame0 d99 [a0,a1]) S (FinK d99.res Post)=s99 cf a0 a1 S Post:=wpS_of (by kernel_rfl)
theorem j99 (a0:D) (a1:D) (Post:D→Prop) (ha:noRefL (stripL [a0,a1])=true) (hr:∀ r,Post r→noRef r=true) (h:s99 (call dp) (strip a0) (strip a1) [] fun d _=>Post (stripT d)):∃ r,isoCall (call dp) 99 [a0,a1]=some r∧Post r:=iso_x (f:=d99) rfl ⟨rfl,by decide⟩ ha hr (by rw [←e99] at h;exact h)
def s56 (cf:CallF) (a0:D) (S:Store) (Post:D→Store→Prop):Prop:=
 bxx 2 true a0 S fun x1 S2=>
 OX (ldD S2 2 true x1) fun x3=>
 OX (isoCall cf 55 [x3]) fun x4=>
 OX (gsel x4 true (faD 0 x1)) fun x5=>
 OX (gsel x4 true (ldD S2 1 false x5)) fun x6=>
 OX (gsel x4 true (faD 1 x1)) fun x7=>
 OX (gsel x4 true (ldD S2 1 false x7)) fun x8=>
 OX (gsel x4 true (isoCall cf 101 [x6,x8])) fun x9=>
 OX (gsel x4 true (binD .leq .num x9 (.i .i64 0))) fun x10=>
 OX (pickD x4 x10 (.b false)) fun x11=>
 Post x11 S2
theorem e56 (cf:CallF) (a0:D) (S:Store) (Post:D→Store→Prop):wp cf c56 (frame0 d56 [a0]) S (FinK d56.res Post)=s56 cf a0 S Post:=wpS_of (by kernel_rfl)
theorem i56 (a0:D) (r:D) (ha:noRefL (stripL [a0])=true) (hr:noRef r=true) (h:s56 (call dp) (strip a0) [] fun d _=>stripT d=r):isoCall (call dp) 56 [a0]=some r:=iso_s (f:=d56) rfl ⟨rfl,by decide⟩ ha hr (by rw [←e56] at h;exact h)
def s45 (cf:CallF)  (S:Store) (Post:D→Store→Prop):Prop:=
 al [.sl 1 true [] .ro,.sl 1 true [] .ro] S fun x1 S2=>
 OX (cellsV 1 false [(.i .u32 1)]) fun x3=>
 OX (bldV [.sl 1 true [] .ro,.sl 1 true [] .ro] [(1,1,false,(.sl 1 false x3 .ro))]) fun x4=>
 OX (stD S2 2 true x1 (.agg x4)) fun S6=>
 OX (ldc S6 2 true x1) fun x7=>Post x7 S6
theorem e45 (cf:CallF)  (S:Store) (Post:D→Store→Prop):wp cf c45 (frame0 d45 []) S (FinK d45.res Post)=s45 cf  S Post:=wpS_of (by kernel_rfl)
theorem i45  (r:D) (ha:noRefL (stripL [])=true) (hr:noRef r=true) (h:s45 (call dp)  [] fun d _=>stripT d=r):isoCall (call dp) 45 []=some r:=iso_s (f:=d45) rfl ⟨rfl,by decide⟩ ha hr (by rw [←e45] at h;exact h)
def s46 (cf:CallF)  (S:Store) (Post:D→Store→Prop):Prop:=
 al [.sl 1 true [] .ro,.sl 1 true [] .ro] S fun x1 S2=>
 OX (cellsV 1 false [(.i .u32 1)]) fun x3=>
 OX (cellsV 1 false [(.i .u32 1)]) fun x4=>
 OX (bldV [.sl 1 true [] .ro,.sl 1 true [] .ro] [(0,1,false,(.sl 1 false x3 .ro)),(1,1,false,(.sl 1 false x4 .ro))]) fun x5=>
 OX (stD S2 2 true x1 (.agg x5)) fun S7=>
 OX (ldc S7 2 true x1) fun x8=>Post x8 S7
theorem e46 (cf:CallF)  (S:Store) (Post:D→Store→Prop):wp cf c46 (frame0 d46 []) S (FinK d46.res Post)=s46 cf  S Post:=wpS_of (by kernel_rfl)
theorem i46  (r:D) (ha:noRefL (stripL [])=true) (hr:noRef r=true) (h:s46 (call dp)  [] fun d _=>stripT d=r):isoCall (call dp) 46 []=some r:=iso_s (f:=d46) rfl ⟨rfl,by decide⟩ ha hr (by rw [←e46] at h;exact h)
def s103 (cf:CallF) (a0:D) (S:Store) (Post:D→Store→Prop):Prop:=
 OX (lenD false a0) fun x1=>
 OX (binD .gtr .num x1 (.i .i64 128)) fun x2=>
 Post x2 S
theorem e103 (cf:CallF) (a0:D) (S:Store) (Post:D→Store→Prop):wp cf c103 (frame0 d103 [a0]) S (FinK d103.res Post)=s103 cf a0 S Post:=wpS_of (by kernel_rfl)
theorem i103 (a0:D) (r:D) (ha:noRefL (stripL [a0])=true) (hr:noRef r=true) (h:s103 (call dp) (strip a0) [] fun d _=>stripT d=r):isoCall (call dp) 103 [a0]=some r:=iso_s (f:=d103) rfl ⟨rfl,by decide⟩ ha hr (by rw [←e103] at h;exact h)
def s16 (cf:CallF) (a0:D) (a1:D) (S:Store) (Post:D→Store→Prop):Prop:=
 bxx 2 true a0 S fun x1 S2=>
 bxx 2 true a1 S2 fun x3 S4=>
 OX (faD 0 x1) fun x5=>
 OX (ldD S4 1 false x5) fun x6=>
 OX (faD 0 x3) fun x7=>
 OX (ldD S4 1 false x7) fun x8=>
 OX (isoCall cf 57 [x6,x8]) fun x9=>
 OX (gsel x9 true (faD 1 x1)) fun x10=>
 OX (gsel x9 true (ldD S4 1 false x10)) fun x11=>
 OX (gsel x9 true (faD 1 x3)) fun x12=>
 OX (gsel x9 true (ldD S4 1 false x12)) fun x13=>
 OX (gsel x9 true (isoCall cf 57 [x11,x13])) fun x14=>
 OX (pickD x9 x14 (.b false)) fun x15=>
 Post x15 S4
theorem e16 (cf:CallF) (a0:D) (a1:D) (S:Store) (Post:D→Store→Prop):wp cf c16 (frame0 d16 [a0,a1]) S (FinK d16.res Post)=s16 cf a0 a1 S Post:=wpS_of (by kernel_rfl)
theorem i16 (a0:D) (a1:D) (r:D) (ha:noRefL (stripL [a0,a1])=true) (hr:noRef r=true) (h:s16 (call dp) (strip a0) (strip a1) [] fun d _=>stripT d=r):isoCall (call dp) 16 [a0,a1]=some r:=iso_s (f:=d16) rfl ⟨rfl,by decide⟩ ha hr (by rw [←e16] at h;exact h)
def s57_r0 (cf:CallF) (a0:D) (a1:D) (a4:D) (a5:D) (a14:D) (S:Store) (Q:Ex→List D→Store→Prop):Prop:=
 Q .ret (mkf 26 [(0,.top),(1,.top),(4,(.b true)),(5,.top),(14,.top)]) S
theorem e57_r0 (cf:CallF) (a0:D) (a1:D) (a4:D) (a5:D) (a14:D) (S:Store) (Q:Ex→List D→Store→Prop):wp cf c57_r0 (mkf 26 [(0,a0),(1,a1),(4,a4),(5,a5),(14,a14)]) S Q=s57_r0 cf a0 a1 a4 a5 a14 S Q:=wpS_of (by kernel_rfl)
def s57_0 (cf:CallF) (a0:D) (a1:D) (a4:D) (a5:D) (a14:D) (S:Store) (Q:Ex→List D→Store→Prop):Prop:=
 OX (lenD false a0) fun x1=>
 OX (binD .lss .num a5 x1) fun x2=>
 WB x2
 (OX (iaD 1 a0 a5) fun x3=>
 OX (ldD S 1 false x3) fun x4=>
 OX (iaD 1 a1 a5) fun x5=>
 OX (ldD S 1 false x5) fun x6=>
 OX (binD .neq .num x4 x6) fun x7=>
 WB x7
 (Q .ret (mkf 26 [(0,.top),(1,.top),(4,(.b false)),(5,.top),(14,.top)]) S)
 (OX (binD .add .num a5 (.i .i64 1)) fun x8=>
 Q .normal (mkf 26 [(0,a0),(1,a1),(4,a4),(5,x8),(14,.top)]) S))
 (Q (.exit 0) (mkf 26 [(0,a0),(1,a1),(4,a4),(5,a5),(14,x2)]) S)
theorem e57_0 (cf:CallF) (a0:D) (a1:D) (a4:D) (a5:D) (a14:D) (S:Store) (Q:Ex→List D→Store→Prop):wp cf c57_0 (fkill (mkf 26 [(0,a0),(1,a1),(4,a4),(5,a5),(14,a14)]) []) S Q=s57_0 cf a0 a1 a4 a5 a14 S Q:=wpS_of (by kernel_rfl)
def s57 (cf:CallF) (a0:D) (a1:D) (S:Store) (Post:D→Store→Prop):Prop:=
 OX (lenD false a0) fun x9=>
 OX (lenD false a1) fun x10=>
 OX (binD .neq .num x9 x10) fun x11=>
 WB x11
 (Post (.b false) S)
 (W cf (.loop [] c57_0) (mkf 26 [(0,a0),(1,a1),(4,.top),(5,(.i .i64 0)),(14,.top)]) S (Qblk 0 (QS cf c57_r0 (FinK [.t 4] Post))))
theorem e57 (cf:CallF) (a0:D) (a1:D) (S:Store) (Post:D→Store→Prop):wp cf c57 (frame0 d57 [a0,a1]) S (FinK d57.res Post)=s57 cf a0 a1 S Post:=wpS_of (by kernel_rfl)
theorem i57 (a0:D) (a1:D) (r:D) (ha:noRefL (stripL [a0,a1])=true) (hr:noRef r=true) (h:s57 (call dp) (strip a0) (strip a1) [] fun d _=>stripT d=r):isoCall (call dp) 57 [a0,a1]=some r:=iso_s (f:=d57) rfl ⟨rfl,by decide⟩ ha hr (by rw [←e57] at h;exact h)
def s31 (cf:CallF) (a0:D) (a1:D) (S:Store) (Post:D→Store→Prop):Prop:=
 bxx 2 true a0 S fun x1 S2=>
 OX (faD 0 x1) fun x3=>
 OX (ldD S2 1 false x3) fun x4=>
 OX (lenD false x4) fun x5=>
 OX (binD .leq .num x5 a1) fun x6=>
 OX (gsel x6 true (faD 1 x1)) fun x7=>
 OX (gsel x6 true (ldD S2 1 false x7)) fun x8=>
 OX (gsel x6 true (lenD false x8)) fun x9=>
 OX (gsel x6 true (some a1)) fun x10=>
 OX (gsel x6 true (binD .leq .num x9 x10)) fun x11=>
 OX (pickD x6 x11 (.b false)) fun x12=>
 Post x12 S2
theorem e31 (cf:CallF) (a0:D) (a1:D) (S:Store) (Post:D→Store→Prop):wp cf c31 (frame0 d31 [a0,a1]) S (FinK d31.res Post)=s31 cf a0 a1 S Post:=wpS_of (by kernel_rfl)
theorem i31 (a0:D) (a1:D) (r:D) (ha:noRefL (stripL [a0,a1])=true) (hr:noRef r=true) (h:s31 (call dp) (strip a0) (strip a1) [] fun d _=>stripT d=r):isoCall (call dp) 31 [a0,a1]=some r:=iso_s (f:=d31) rfl ⟨rfl,by decide⟩ ha hr (by rw [←e31] at h;exact h)
end Go.Proofs.YtjniafcnjbbomaaGreatDoor.DE

namespace Go.Proofs.YtjniafcnjbbomaaGreatDoor.DE.V
open Go NL
@[simp] theorem strip1L_nil:strip1L []=[]:=(rfl)
@[simp] theorem strip1L_cons (x:D) (l:List D):strip1L (x::l)=strip1 x::strip1L l:=(rfl)
def eQ (n1 n2:Bool) (a b:List Nat):D:=.agg [eLims n1 a .ro,eLims n2 b .ro]
@[simp] theorem noRef_eQ (n1 n2:Bool) (a b:List Nat):noRef (eQ n1 n2 a b)=true:=by simp [eQ,noRef,noRefL]
@[simp] theorem strip_eQ (n1 n2:Bool) (a b:List Nat):strip (eQ n1 n2 a b)=eQ n1 n2 a b:=(rfl)
@[simp] theorem stripT_eQ (n1 n2:Bool) (a b:List Nat):stripT (eQ n1 n2 a b)=eQ n1 n2 a b:=(rfl)
@[simp] theorem cells_eQ (n1 n2:Bool) (a b:List Nat):cellsK 2 true (eQ n1 n2 a b)=some [eLims n1 a .ro,eLims n2 b .ro]:=(rfl)
theorem bld0:bldV [.sl 1 true [] .ro,.sl 1 true [] .ro] []=some [eLims true [] .ro,eLims true [] .ro]:=rfl
theorem bld2 (n1 n2:Bool) (a b:List Nat):bldV [.sl 1 true [] .ro,.sl 1 true [] .ro] [(0,1,false,eLims n1 a .ro),(1,1,false,eLims n2 b .ro)]=some [eLims n1 a .ro,eLims n2 b .ro]:=rfl
theorem st2 (S:Store) (id:Nat) (x y u v:D) (hu:isCell u=true) (hv:isCell v=true) (h:sget S id=some (.box [x,y])):stD S 2 true (.bx id 0) (.agg [u,v])=some (sset S id (.box [u,v])):=by
 simp [h,hu,hv]
theorem st2q (S:Store) (id:Nat) (x y:D) (n1 n2:Bool) (a b:List Nat) (h:sget S id=some (.box [x,y])):stD S 2 true (.bx id 0) (eQ n1 n2 a b)=some (sset S id (.box [eLims n1 a .ro,eLims n2 b .ro])):=st2 S id x y _ _ rfl rfl h
@[simp] theorem strip_q2 (n1 n2:Bool) (a b:List Nat):strip (.agg [eLims n1 a .ro,eLims n2 b .ro]) = .agg [eLims n1 a .ro,eLims n2 b .ro]:=(rfl)
@[simp] theorem stripT_q2 (n1 n2:Bool) (a b:List Nat):stripT (.agg [eLims n1 a .ro,eLims n2 b .ro]) = .agg [eLims n1 a .ro,eLims n2 b .ro]:=(rfl)
def Rq (q:Fq) (d:D):Prop:=∃ n1 n2,d=eQ n1 n2 (ofN q.1) (ofN q.2)∧NF n1 (ofN q.1)∧NF n2 (ofN q.2)
theorem Rq.noRef {q:Fq} {d:D} (h:Rq q d):noRef d=true:=by obtain ⟨n1,n2,rfl,_⟩:=h;simp
theorem Rq.strip {q:Fq} {d:D} (h:Rq q d):strip d=d:=by obtain ⟨n1,n2,rfl,_⟩:=h;rfl
theorem Rq.stripT {q:Fq} {d:D} (h:Rq q d):stripT d=d:=by obtain ⟨n1,n2,rfl,_⟩:=h;rfl
def RT (o:Option Fq) (e:Int) (d:D):Prop:=match o with
 | some q=>∃ dq,d = .tup [dq,.i .i64 0]∧Rq q dq
 | none=>d = .tup [eQ true true [] [],.i .i64 e]
theorem RT.noRef {o:Option Fq} {e:Int} {d:D} (h:RT o e d):noRef d=true:=by
 cases o with
 | none=>simp only [RT] at h;subst h;simp [DE.noRef,noRefL]
 | some q=>obtain ⟨dq,rfl,hq⟩:=h;simp [DE.noRef,noRefL,hq.noRef]
def VR (a b:List Nat):Prop:=((VN a∧VN b)∧0<b.length)∧Nat.gcd (val a) (val b)=1
open Classical in
theorem v53 (n1 n2:Bool) (a b:List Nat) (la:Lim a) (lb:Lim b) (f1:NF n1 a) (f2:NF n2 b) (ba:Bd a.length) (bb:Bd b.length) :
  isoCall (call dp) 53 [eQ n1 n2 a b]=some (.b (decide (VR a b))):=by
 apply i53 _ _ (by simp [noRefL]) rfl
 have u53:=v83 (n:=1) (by decide)
 rw [show ((1:Nat):Int)=1 from rfl] at u53
 by_cases h1:VN a
 ·by_cases h2:VN b
  ·by_cases h3:0<b.length
   ·have ea:=ofN_val (h1.can la)
    have eb:=ofN_val (h2.can lb)
    obtain ⟨n,e,f⟩:=v107 n1 n2 (val a) (val b) (by rw [lt128_iff,ea];exact h1.1) (by rw [lt128_iff,eb];exact h2.1) (by rw [ea];exact f1) (by rw [eb];exact f2)
    rw [ea,eb] at e
    have hg:(ofN (Nat.gcd (val a) (val b))).length≤128:=by
     have:Nat.gcd (val a) (val b)≤val b:=Nat.gcd_le_right _ (Can.pos (h2.can lb) (by rintro rfl;simp at h3))
     have h5:=len_lt this
     rw [eb] at h5
     have:=h2.1
     omega
    have e6:=v106 n false (ofN (Nat.gcd (val a) (val b))) (ofN 1) (by unfold Bd;omega)
    have hi:(ofN (Nat.gcd (val a) (val b))=ofN 1)=(Nat.gcd (val a) (val b)=1):=propext ⟨ofN_inj,fun h=>by rw [h]⟩
    simp [s53,v105 n1 a ba,v105 n2 b bb,h1,h2,h3,VR,u53,e,e6,hi]
   ·have hb:b=[]:=by
     cases b with
     | nil=>rfl
     | cons x t=>simp at h3
    subst hb
    simp [s53,v105 n1 a ba,v105 n2 [] bb,h1,h2,VR]
  ·simp [s53,v105 n1 a ba,v105 n2 b bb,h1,h2,VR]
 ·simp [s53,v105 n1 a ba,h1,VR]
theorem VR_ofN {q:Fq} (h:VQ q):VR (ofN q.1) (ofN q.2):=by
 refine ⟨⟨⟨vn_ofN.2 h.f1,vn_ofN.2 h.f2⟩,?_⟩,by rw [val_ofN,val_ofN];exact h.gcd⟩
 have:=h.pos
 exact List.length_pos_iff.2 fun e=>by have:=ofN_nil.1 e;omega
theorem VQ_of {a b:List Nat} (la:Lim a) (lb:Lim b) (h:VR a b):VQ (val a,val b)∧a=ofN (val a)∧b=ofN (val b):=by
 have ea:=ofN_val (h.1.1.1.can la)
 have eb:=ofN_val (h.1.1.2.can lb)
 refine ⟨⟨Can.pos (h.1.1.2.can lb) (by rintro rfl;have:=h.1.2;simp at this),h.2,?_,?_⟩,ea.symm,eb.symm⟩
 ·rw [lt128_iff];simp only [ea];exact h.1.1.1.1
 ·rw [lt128_iff];simp only [eb];exact h.1.1.2.1
theorem bd_ofN {x:Nat} (h:Lt128 x):Bd (ofN x).length:=by have:=(lt128_iff x).1 h;unfold Bd;omega
theorem v53q {q:Fq} {d:D} (h:Rq q d) (k:VQ q):isoCall (call dp) 53 [d]=some (.b true):=by
 obtain ⟨n1,n2,rfl,f1,f2⟩:=h
 rw [v53 n1 n2 _ _ (lim_ofN _) (lim_ofN _) f1 f2 (bd_ofN k.f1) (bd_ofN k.f2)]
 simp [VR_ofN k]
theorem v71 (n1 n2:Bool) (x y:Nat) (hx:Lt128 x) (hy:Lt128 y) (h0:y≠0) (f1:NF n1 (ofN x)) (f2:NF n2 (ofN y)) :
  ∃ r,isoCall (call dp) 71 [eLims n1 (ofN x) .ro,eLims n2 (ofN y) .ro]=some r∧RT (some (red x y)) 0 r:=by
 apply j71 _ _ _ (by simp [noRefL]) (fun r h=>h.noRef)
 have hne:ofN y≠[]:=fun e=>h0 (ofN_nil.1 e)
 have hl:(ofN y).length≠0:=by simpa using hne
 obtain ⟨n,e,f⟩:=v107 n1 n2 x y hx hy f1 f2
 have hg:0<Nat.gcd x y:=Nat.gcd_pos_of_pos_right _ (by omega)
 have hgl:Lt128 (Nat.gcd x y):=Nat.lt_of_le_of_lt (Nat.gcd_le_right _ (by omega)) hy
 obtain ⟨m1,m2,e1,g1,g2⟩:=v135n n1 n x (Nat.gcd x y) hx hgl f1 (by omega)
 obtain ⟨m3,m4,e2,g3,g4⟩:=v135n n2 n y (Nat.gcd x y) hy hgl f2 (by omega)
 simp [s71,v105 n1 _ (bd_ofN hx),v105 n2 _ (bd_ofN hy),vn_ofN.2 hx,vn_ofN.2 hy,hne,e,e1,e2,bld2,st2,ldc]
 exact ⟨_,rfl,m1,m3,rfl,g1,g3⟩
end Go.Proofs.YtjniafcnjbbomaaGreatDoor.DE.V

namespace Go.Proofs.YtjniafcnjbbomaaGreatDoor.DE.V
open Go NL
abbrev Pr:=Bool × Nat × Bool × Nat
def ePr (p:Pr):List D:=[eLims p.1 (ofN p.2.1) .ro,eLims p.2.2.1 (ofN p.2.2.2) .ro]
def pPr (p:Pr):List D:=[eLims false (ofN (p.2.1 * p.2.2.2)) .ro]
def Ap2 (out:List (List D)) (d:D) (S:Store):Prop:=(out=[]∧d = .sl 1 true [] .ro)∨(out≠[]∧∃ t,d = .sl 1 false out (.tok t)∧sget S t=some (.tok true))
theorem Ap2.app {out:List (List D)} {d:D} {S:Store} (h:Ap2 out d S) (x:List D) (hl:out.length≤1000):∃ d' S',appD 1 false d (.sl 1 false [x] .ro) S=some (d',S')∧Ap2 (out++[x]) d' S':=by
 rcases h with ⟨rfl,rfl⟩ | ⟨_,t,rfl,hs⟩
 ·exact ⟨_,_,app_nil _ (by unfold maxLenD;simp) (fun t h=>by cases h),.inr ⟨by simp,_,rfl,sget_top _ _⟩⟩
 ·refine ⟨_,_,app_tok _ (by unfold maxLenD;simp;omega) hs,.inr ⟨by simp,List.length S,rfl,?_⟩⟩
  rw [←sset_len (Ent.tok false) S t]
  exact sget_top _ _
theorem Ap2.push {out:List (List D)} {d:D} {S:Store} (h:Ap2 out d S) (e:Ent):Ap2 out d (e::S):=by
 rcases h with h | ⟨h,t,h1,h2⟩
 ·exact .inl h
 ·exact .inr ⟨h,t,h1,sget_push h2⟩
theorem Ap2.strip {out:List (List D)} {d:D} {S:Store} (h:Ap2 out d S):strip d = .sl 1 out.isEmpty out .ro:=by
 rcases h with ⟨rfl,rfl⟩ | ⟨h,t,rfl,_⟩
 ·rfl
 ·have:out.isEmpty=false:=by simpa using h
  rw [this];rfl
theorem iaa0 (id:Nat):iaaD 2 1 (.bx id 0) (.i .i64 0)=some (.bx id 0):=rfl
theorem iaa1 (id:Nat):iaaD 2 1 (.bx id 0) (.i .i64 1)=some (.bx id 1):=rfl
def J79 (ps:List Pr):Nat→List D→Store→Prop:=fun q fr S=>∃ i a2 a3 a4 a12,q=ps.length-i∧i≤ps.length∧Ap2 ((ps.take i).map pPr) a4 S∧(∀ p,p∈ps.take i→Lt128 (p.2.1 * p.2.2.2)) ∧
 fr=mkf 31 [(2,a2),(3,a3),(4,a4),(9,.sl 2 false (ps.map ePr) .ro),(10,.i .i64 ps.length),(11,.i .i64 i),(12,a12)]
theorem noRefLL_pPr:∀ ps:List Pr,noRefLL (ps.map pPr)=true
 | []=>rfl
 | p::ps=>by simp [noRefLL,pPr,noRefL,noRefLL_pPr ps]
theorem noRefLL_ePr:∀ ps:List Pr,noRefLL (ps.map ePr)=true
 | []=>rfl
 | p::ps=>by simp [noRefLL,ePr,noRefL,noRefLL_ePr ps]
theorem v79 (ps:List Pr) (hl:ps.length≤10) (hok:∀ p,p∈ps→Lt128 p.2.1∧Lt128 p.2.2.2) :
  isoCall (call dp) 79 [.sl 2 false (ps.map ePr) .ro]=some (if ∀ p,p∈ps→Lt128 (p.2.1 * p.2.2.2) then .tup [.sl 1 (ps.map pPr).isEmpty (ps.map pPr) .ro,.b true] else .tup [.sl 1 true [] .ro,.b false]):=by
 have hst:strip (.sl 2 false (ps.map ePr) .ro) = .sl 2 false (ps.map ePr) .ro:=rfl
 apply i79 _ _ (by simp [hst,noRefL,noRef,noRefLL_ePr]) (by split <;> simp [noRef,noRefL,noRefLL,noRefLL_pPr])
 simp only [s79,hst,lenD_sl,List.length_map,OX_some]
 generalize hR:QS (call dp) c79_r0 _=R
 refine W_loop (J79 ps) ?_ ps.length _ _ ⟨0,.top,.top,_,.top,by omega,by omega,.inl ⟨rfl,rfl⟩,fun p hp=>by simp at hp,rfl⟩
 rintro q fr S ⟨i,a2,a3,a4,a12,rfl,hi,hap,hfit,rfl⟩
 rw [←wp_W,e79_0]
 by_cases hlt:i<ps.length
 ·obtain ⟨p,hp⟩:∃ p,ps[i]? = some p:=⟨ps[i],List.getElem?_eq_getElem hlt⟩
  have hmem:=List.mem_of_getElem? hp
  obtain ⟨k1,k2⟩:=hok p hmem
  have hia:iaD 2 (.sl 2 false (ps.map ePr) .ro) (.i .i64 (i:Int))=some (.el (ePr p) 0):=by
   simp [iaD,hp]
  have hld:ldD S 2 true (.el (ePr p) 0)=some (eQ p.1 p.2.2.1 (ofN p.2.1) (ofN p.2.2.2)):=rfl
  have hst2:=st2q (Ent.box [.sl 1 true [] .ro,.sl 1 true [] .ro]::S) S.length (.sl 1 true [] .ro) (.sl 1 true [] .ro) p.1 p.2.2.1 (ofN p.2.1) (ofN p.2.2.2) (sget_top _ _)
  rw [sset_top] at hst2
  have hl0:ldD (Ent.box [eLims p.1 (ofN p.2.1) .ro,eLims p.2.2.1 (ofN p.2.2.2) .ro]::S) 1 false (.bx S.length 0)=some (eLims p.1 (ofN p.2.1) .ro):=by
   rw [ldD_bx,sget_top];rfl
  have hl1:ldD (Ent.box [eLims p.1 (ofN p.2.1) .ro,eLims p.2.2.1 (ofN p.2.2.2) .ro]::S) 1 false (.bx S.length 1)=some (eLims p.2.2.1 (ofN p.2.2.2) .ro):=by
   rw [ldD_bx,sget_top];rfl
  have h70:=v70 p.1 p.2.2.1 (ofN p.2.1) (ofN p.2.2.2) (vn_ofN.2 k1) (vn_ofN.2 k2) (lim_ofN _) (lim_ofN _)
  rw [val_ofN,val_ofN] at h70
  simp only [s79_0,lss_nat,hlt,decide_true,OX_tt,WB_true,hia,OX_some,hld,al_eq,hst2,iaa0,iaa1,hl0,hl1,h70]
  have htk:ps.take (i+1)=ps.take i++[p]:=take_snoc hp
  by_cases hf:Lt128 (p.2.1 * p.2.2.2)
  ·have hcell:cellsV 1 false [eLims false (ofN (p.2.1 * p.2.2.2)) .ro]=some [pPr p]:=rfl
   obtain ⟨d',S',e1,hap'⟩:=(hap.push (Ent.box [eLims p.1 (ofN p.2.1) .ro,eLims p.2.2.1 (ofN p.2.2.2) .ro])).app (pPr p) (by simp;omega)
   have hne:binD .neq .num (.i .i64 0) (.i .i64 0)=some (.b false):=by rw [bin_neq];rfl
   simp only [hf,if_true,ext_eq,List.getElem?_cons_zero,List.getElem?_cons_succ,OX_some,hne,WB_false,hcell,e1,inc_nat (show Bd i by unfold Bd;omega),Qseq_normal]
   refine ⟨ps.length-(i+1),by omega,i+1,a2,a3,d',.top,rfl,by omega,?_,?_,rfl⟩
   ·rw [htk,List.map_append];exact hap'
   ·intro p' hp'
    rw [htk] at hp'
    rcases List.mem_append.1 hp' with h | h
    ·exact hfit p' h
    ·rw [List.mem_singleton.1 h];exact hf
  ·have hne:binD .neq .num (.i .i64 6) (.i .i64 0)=some (.b true):=by rw [bin_neq];rfl
   have hna:¬∀ p,p∈ps→Lt128 (p.2.1 * p.2.2.2):=fun h=>hf (h p hmem)
   simp only [hf,if_false,ext_eq,List.getElem?_cons_zero,List.getElem?_cons_succ,OX_some,hne,WB_true,Qseq_ret,Qblk_ret]
   rw [←hR,QS_ret,FinK_ret2,if_neg hna]
   rfl
 ·have:i=ps.length:=by omega
  subst this
  rw [List.take_length] at hfit hap
  simp only [s79_0,lss_nat,hlt,decide_false,OX_ff,WB_false,Qseq_exit,Qblk_same]
  rw [←hR]
  simp only [QS_normal,e79_r0,s79_r0]
  rw [FinK_ret2,if_pos hfit]
  show D.tup [strip a4,.b true]=_
  rw [hap.strip]
theorem v29 (a b:Fq) (da db:D) (ha:Rq a da) (hb:Rq b db) (va:VQ a) (vb:VQ b):∃ r,isoCall (call dp) 29 [da,db]=some r∧RT (pmul a b) 6 r:=by
 have e1:=v53q ha va
 have e2:=v53q hb vb
 obtain ⟨n1,n2,rfl,f1,f2⟩:=ha
 obtain ⟨m1,m2,rfl,g1,g2⟩:=hb
 apply j29 _ _ _ (by simp [noRefL]) (fun r h=>h.noRef)
 have h79:=v79 [(n1,a.1,m1,b.1),(n2,a.2,m2,b.2)] (by simp) (by
  intro p hp
  simp at hp
  rcases hp with rfl | rfl
  ·exact ⟨va.f1,vb.f1⟩
  ·exact ⟨va.f2,vb.f2⟩)
 simp only [List.map_cons,List.map_nil,ePr,pPr,List.isEmpty_cons] at h79
 have hc:cellsV 2 true [.agg [eLims n1 (ofN a.1) .ro,eLims m1 (ofN b.1) .ro],.agg [eLims n2 (ofN a.2) .ro,eLims m2 (ofN b.2) .ro]]=some [[eLims n1 (ofN a.1) .ro,eLims m1 (ofN b.1) .ro],[eLims n2 (ofN a.2) .ro,eLims m2 (ofN b.2) .ro]]:=rfl
 by_cases hf:Lt128 (a.1 * b.1)∧Lt128 (a.2 * b.2)
 ·have hall:∀ p:Pr,p∈[(n1,a.1,m1,b.1),(n2,a.2,m2,b.2)]→Lt128 (p.2.1 * p.2.2.2):=by
   intro p hp
   simp at hp
   rcases hp with rfl | rfl
   ·exact hf.1
   ·exact hf.2
  rw [if_pos hall] at h79
  obtain ⟨r,e3,hr⟩:=v71 false false _ _ hf.1 hf.2 (by have:=Nat.mul_pos va.pos vb.pos;omega) (fun h=>by cases h) (fun h=>by cases h)
  obtain ⟨dq,rfl,k1,k2,rfl,k3,k4⟩:=hr
  have hp:pmul a b=some (red (a.1 * b.1) (a.2 * b.2)):=if_pos hf
  have hz:iaD 1 (.sl 1 false [[eLims false (ofN (a.1 * b.1)) .ro],[eLims false (ofN (a.2 * b.2)) .ro]] .ro) (.i .i64 0)=some (.el [eLims false (ofN (a.1 * b.1)) .ro] 0):=rfl
  have ho:iaD 1 (.sl 1 false [[eLims false (ofN (a.1 * b.1)) .ro],[eLims false (ofN (a.2 * b.2)) .ro]] .ro) (.i .i64 1)=some (.el [eLims false (ofN (a.2 * b.2)) .ro] 0):=rfl
  simp only [eQ] at e1 e2 e3
  simp [s29,e1,e2,bld2,hc,h79,hz,ho,e3,st2,ldc,hp,eQ]
  exact ⟨_,rfl,k1,k2,rfl,k3,k4⟩
 ·have hall:¬∀ p:Pr,p∈[(n1,a.1,m1,b.1),(n2,a.2,m2,b.2)]→Lt128 (p.2.1 * p.2.2.2):=by
   intro h
   exact hf ⟨h (n1,a.1,m1,b.1) (by simp),h (n2,a.2,m2,b.2) (by simp)⟩
  rw [if_neg hall] at h79
  have hp:pmul a b=none:=if_neg hf
  simp only [eQ] at e1 e2
  simp [s29,e1,e2,bld2,bld0,hc,h79,st2,ldc,hp,RT,eQ]
theorem v27 (a b:Fq) (da db:D) (ha:Rq a da) (hb:Rq b db) (va:VQ a) (vb:VQ b):∃ r,isoCall (call dp) 27 [da,db]=some r∧RT (padd a b) 6 r:=by
 have e1:=v53q ha va
 have e2:=v53q hb vb
 obtain ⟨n1,n2,rfl,f1,f2⟩:=ha
 obtain ⟨m1,m2,rfl,g1,g2⟩:=hb
 apply j27 _ _ _ (by simp [noRefL]) (fun r h=>h.noRef)
 have h79:=v79 [(n1,a.1,m2,b.2),(m1,b.1,n2,a.2),(n2,a.2,m2,b.2)] (by simp) (by
  intro p hp
  simp at hp
  rcases hp with rfl | rfl | rfl
  ·exact ⟨va.f1,vb.f2⟩
  ·exact ⟨vb.f1,va.f2⟩
  ·exact ⟨va.f2,vb.f2⟩)
 simp only [List.map_cons,List.map_nil,ePr,pPr,List.isEmpty_cons] at h79
 have hc:cellsV 2 true [.agg [eLims n1 (ofN a.1) .ro,eLims m2 (ofN b.2) .ro],.agg [eLims m1 (ofN b.1) .ro,eLims n2 (ofN a.2) .ro],.agg [eLims n2 (ofN a.2) .ro,eLims m2 (ofN b.2) .ro]]=some [[eLims n1 (ofN a.1) .ro,eLims m2 (ofN b.2) .ro],[eLims m1 (ofN b.1) .ro,eLims n2 (ofN a.2) .ro],[eLims n2 (ofN a.2) .ro,eLims m2 (ofN b.2) .ro]]:=rfl
 by_cases hf:Lt128 (a.1 * b.2)∧Lt128 (b.1 * a.2)∧Lt128 (a.2 * b.2)
 ·have hall:∀ p:Pr,p∈[(n1,a.1,m2,b.2),(m1,b.1,n2,a.2),(n2,a.2,m2,b.2)]→Lt128 (p.2.1 * p.2.2.2):=by
   intro p hp
   simp at hp
   rcases hp with rfl | rfl | rfl
   ·exact hf.1
   ·exact hf.2.1
   ·exact hf.2.2
  rw [if_pos hall] at h79
  have h80:=v80 false false (ofN (a.1 * b.2)) (ofN (b.1 * a.2)) (vn_ofN.2 hf.1) (vn_ofN.2 hf.2.1) (lim_ofN _) (lim_ofN _)
  rw [val_ofN,val_ofN] at h80
  have hz:∀ x y z:D,iaD 1 (.sl 1 false [[x],[y],[z]] .ro) (.i .i64 0)=some (.el [x] 0):=fun _ _ _=>rfl
  have ho:∀ x y z:D,iaD 1 (.sl 1 false [[x],[y],[z]] .ro) (.i .i64 1)=some (.el [y] 0):=fun _ _ _=>rfl
  have ht:∀ x y z:D,iaD 1 (.sl 1 false [[x],[y],[z]] .ro) (.i .i64 2)=some (.el [z] 0):=fun _ _ _=>rfl
  by_cases hs:Lt128 (a.1 * b.2+b.1 * a.2)
  ·rw [if_pos hs] at h80
   obtain ⟨r,e3,hr⟩:=v71 false false _ _ hs hf.2.2 (by have:=Nat.mul_pos va.pos vb.pos;omega) (fun h=>by cases h) (fun h=>by cases h)
   obtain ⟨dq,rfl,k1,k2,rfl,k3,k4⟩:=hr
   have hp:padd a b=some (red (a.1 * b.2+b.1 * a.2) (a.2 * b.2)):=if_pos ⟨hf,hs⟩
   simp only [eQ] at e1 e2 e3
   simp [s27,e1,e2,bld2,hc,h79,hz,ho,ht,h80,e3,st2,ldc,hp,eQ]
   exact ⟨_,rfl,k1,k2,rfl,k3,k4⟩
  ·rw [if_neg hs] at h80
   have hp:padd a b=none:=if_neg fun h=>hs h.2
   simp only [eQ] at e1 e2
   simp [s27,e1,e2,bld2,bld0,hc,h79,hz,ho,h80,st2,ldc,hp,RT,eQ]
 ·have hall:¬∀ p:Pr,p∈[(n1,a.1,m2,b.2),(m1,b.1,n2,a.2),(n2,a.2,m2,b.2)]→Lt128 (p.2.1 * p.2.2.2):=by
   intro h
   exact hf ⟨h (n1,a.1,m2,b.2) (by simp),h (m1,b.1,n2,a.2) (by simp),h (n2,a.2,m2,b.2) (by simp)⟩
  rw [if_neg hall] at h79
  have hp:padd a b=none:=if_neg fun h=>hf h.1
  simp only [eQ] at e1 e2
  simp [s27,e1,e2,bld2,bld0,hc,h79,st2,ldc,hp,RT,eQ]
theorem v95 (a:Fq) (da:D) (ha:Rq a da) (va:VQ a) (hle:a.1≤a.2):∃ r,isoCall (call dp) 95 [da]=some r∧RT (some (pcompl a)) 0 r:=by
 have e1:=v53q ha va
 obtain ⟨n1,n2,rfl,f1,f2⟩:=ha
 apply j95 _ _ (by simp [noRefL]) (fun r h=>h.noRef)
 have h161:=v161 n2 n1 (ofN a.2) (ofN a.1) (vn_ofN.2 va.f2) (vn_ofN.2 va.f1) (lim_ofN _) (lim_ofN _)
 rw [val_ofN,val_ofN,if_pos hle] at h161
 obtain ⟨r,e3,hr⟩:=v71 false n2 (a.2-a.1) a.2 (Nat.lt_of_le_of_lt (Nat.sub_le _ _) va.f2) va.f2 (by have:=va.pos;omega) (fun h=>by cases h) f2
 rw [red_compl va hle] at hr
 obtain ⟨dq,rfl,k1,k2,rfl,k3,k4⟩:=hr
 simp only [eQ] at e1 e3
 simp [s95,e1,h161,e3,st2,ldc,eQ]
 exact ⟨_,rfl,k1,k2,rfl,k3,k4⟩
open Classical in
theorem v30 (n1 n2:Bool) (a b:List Nat) (la:Lim a) (lb:Lim b) (f1:NF n1 a) (f2:NF n2 b) (ba:Bd a.length) (bb:Bd b.length) :
  isoCall (call dp) 30 [eQ n1 n2 a b]=some (.b (decide (VR a b∧val a≤val b))):=by
 have e1:=v53 n1 n2 a b la lb f1 f2 ba bb
 apply i30 _ _ (by simp [noRefL]) rfl
 have hsg:binD .leq .num (.i .i64 (sgn (val a) (val b))) (.i .i64 0)=some (.b (decide (val a≤val b))):=by
  rw [bin_leq]
  congr 2
  unfold sgn
  by_cases h:val a<val b
  ·rw [if_pos h];simp;omega
  ·rw [if_neg h]
   by_cases h':val a=val b
   ·rw [if_pos h'];simp;omega
   ·rw [if_neg h'];simp;omega
 by_cases h:VR a b
 ·have h82:=v82 n1 n2 a b h.1.1.1 h.1.1.2 la lb
  simp only [eQ] at e1
  simp [s30,e1,h,h82,hsg,eQ]
 ·simp only [eQ] at e1
  simp [s30,e1,h,eQ]
theorem v81 {x:Nat} (h:x<18446744073709551616):isoCall (call dp) 81 [.i .u64 x]=some (eQ false false (ofN x) (ofN 1)):=by
 apply i81 _ _ (by simp [noRefL]) (by simp)
 have h1:=v83 h
 have h2:=v83 (n:=1) (by decide)
 rw [show ((1:Nat):Int)=1 from rfl] at h2
 simp [s81,h1,h2,bld2,st2,ldc,eQ]
theorem v28:isoCall (call dp) 28 []=some (eQ false false (ofN 1) (ofN 1)):=by
 apply i28 _ (by simp [noRefL]) (by simp)
 have h2:=v81 (x:=1) (by decide)
 rw [show ((1:Nat):Int)=1 from rfl] at h2
 simp only [eQ] at h2
 simp [s28,h2,st2,ldc,eQ]
theorem v39:isoCall (call dp) 39 []=some (eQ false false (ofN 0) (ofN 1)):=by
 apply i39 _ (by simp [noRefL]) (by simp)
 have h2:=v81 (x:=0) (by decide)
 rw [show ((0:Nat):Int)=0 from rfl] at h2
 simp only [eQ] at h2
 simp [s39,h2,st2,ldc,eQ]
end Go.Proofs.YtjniafcnjbbomaaGreatDoor.DE.V

namespace Go.Proofs.YtjniafcnjbbomaaGreatDoor.DE.V
open Go NL
theorem one_lims:D.sl 1 false [[.i .u32 1]] .ro=eLims false (ofN 1) .ro:=by rw [ofN_one];rfl
theorem len_one:(ofN 1).length=1:=by rw [ofN_one];rfl
open Classical in
theorem v55 (n1 n2:Bool) (a b:List Nat) (la:Lim a) (lb:Lim b) (f1:NF n1 a) (f2:NF n2 b) (ba:Bd a.length) (bb:Bd b.length) :
  isoCall (call dp) 55 [eQ n1 n2 a b]=some (.b (decide (VR a b))):=by
 apply i55 _ _ (by simp [noRefL]) rfl
 by_cases h1:VN a
 ·by_cases h2:VN b
  ·by_cases h3:0<b.length
   ·have ea:=ofN_val (h1.can la)
    have eb:=ofN_val (h2.can lb)
    obtain ⟨n,e,f⟩:=v109 n1 n2 (val a) (val b) (by rw [lt128_iff,ea];exact h1.1) (by rw [lt128_iff,eb];exact h2.1) (by rw [ea];exact f1) (by rw [eb];exact f2)
    rw [ea,eb] at e
    have hg:(ofN (Nat.gcd (val a) (val b))).length≤128:=by
     have:Nat.gcd (val a) (val b)≤val b:=Nat.gcd_le_right _ (Can.pos (h2.can lb) (by rintro rfl;simp at h3))
     have h5:=len_lt this
     rw [eb] at h5
     have:=h2.1
     omega
    have e6:=v101 n false (Nat.gcd (val a) (val b)) 1 (strip_lims n _ .ro) (strip_lims false _ .ro) (by omega) (by rw [len_one];decide)
    have hi:(sgn (Nat.gcd (val a) (val b)) 1=0)=(Nat.gcd (val a) (val b)=1):=by
     unfold sgn
     apply propext
     split
     ·simp;omega
     ·split <;> simp [*]
    have hone:=one_lims
    simp [s55,v108 n1 a ba,v108 n2 b bb,h1,h2,h3,VR,e,hone,e6,hi]
   ·have hb:b=[]:=by
     cases b with
     | nil=>rfl
     | cons x t=>simp at h3
    subst hb
    simp [s55,v108 n1 a ba,v108 n2 [] bb,h1,h2,VR]
  ·simp [s55,v108 n1 a ba,v108 n2 b bb,h1,h2,VR]
 ·simp [s55,v108 n1 a ba,h1,VR]
theorem v55q {q:Fq} {d:D} (h:Rq q d) (k:VQ q):isoCall (call dp) 55 [d]=some (.b true):=by
 obtain ⟨n1,n2,rfl,f1,f2⟩:=h
 rw [v55 n1 n2 _ _ (lim_ofN _) (lim_ofN _) f1 f2 (bd_ofN k.f1) (bd_ofN k.f2)]
 simp [VR_ofN k]
theorem v104 (n1 n2:Bool) (x y:Nat) (hx:Lt128 x) (hy:Lt128 y) (h0:0<y) (f1:NF n1 (ofN x)) (f2:NF n2 (ofN y)) :
  isoCall (call dp) 104 [eLims n1 (ofN x) .ro,eLims n2 (ofN y) .ro]=some (eQ false false (ofN (red x y).1) (ofN (red x y).2)):=by
 apply i104 _ _ _ (by simp [noRefL]) (by simp)
 obtain ⟨n,e,f⟩:=v109 n1 n2 x y hx hy f1 f2
 have hg:0<Nat.gcd x y:=Nat.gcd_pos_of_pos_right _ h0
 have hgl:Lt128 (Nat.gcd x y):=Nat.lt_of_le_of_lt (Nat.gcd_le_right _ h0) hy
 have l1:=(lt128_iff _).1 hx
 have l2:=(lt128_iff _).1 hy
 have l3:=(lt128_iff _).1 hgl
 have e1:=v164 n1 n (ofN x) (Nat.gcd x y) (strip_lims n1 _ .ro) (strip_lims n _ .ro) (lim_ofN _) (by omega) (by omega) hg
 have e2:=v164 n2 n (ofN y) (Nat.gcd x y) (strip_lims n2 _ .ro) (strip_lims n _ .ro) (lim_ofN _) (by omega) (by omega) hg
 rw [val_ofN] at e1 e2
 simp [s104,e,e1,e2,bld2,st2,ldc,eQ,red]
theorem v103 {d:D} (n:Bool) (l:List Nat) (hd:strip d=eLims n l .ro):isoCall (call dp) 103 [d]=some (.b (decide (128<l.length))):=by
 apply i103 _ _ (by simp [hd,noRefL]) rfl
 have:binD .gtr .num (.i .i64 (l.length:Int)) (.i .i64 128)=some (.b (decide (128<l.length))):=gtr_nat _ 128
 simp only [s103,hd,len_lims,OX_some,this,stripT_b]
theorem big_iff (x:Nat):(128<(ofN x).length) = ¬Lt128 x:=by
 apply propext
 rw [lt128_iff];omega
theorem v51 (a b:Fq) (da db:D) (ha:Rq a da) (hb:Rq b db) (va:VQ a) (vb:VQ b):∃ r,isoCall (call dp) 51 [da,db]=some r∧RT (pmul a b) 6 r:=by
 have e1:=v55q ha va
 have e2:=v55q hb vb
 obtain ⟨n1,n2,rfl,f1,f2⟩:=ha
 obtain ⟨m1,m2,rfl,g1,g2⟩:=hb
 apply j51 _ _ _ (by simp [noRefL]) (fun r h=>h.noRef)
 have l1:=(lt128_iff _).1 va.f1
 have l2:=(lt128_iff _).1 va.f2
 have l3:=(lt128_iff _).1 vb.f1
 have l4:=(lt128_iff _).1 vb.f2
 have p1:=v73 n1 m1 (ofN a.1) (ofN b.1) (strip_lims n1 _ .ro) (strip_lims m1 _ .ro) (lim_ofN _) (lim_ofN _) (by omega) (by omega)
 have p2:=v73 n2 m2 (ofN a.2) (ofN b.2) (strip_lims n2 _ .ro) (strip_lims m2 _ .ro) (lim_ofN _) (lim_ofN _) (by omega) (by omega)
 rw [val_ofN,val_ofN] at p1 p2
 have q1:=v103 false (ofN (a.1 * b.1)) (strip_lims false _ .ro)
 have q2:=v103 false (ofN (a.2 * b.2)) (strip_lims false _ .ro)
 simp only [big_iff] at q1 q2
 simp only [eQ] at e1 e2
 by_cases h1:Lt128 (a.1 * b.1)
 ·by_cases h2:Lt128 (a.2 * b.2)
  ·have hp:pmul a b=some (red (a.1 * b.1) (a.2 * b.2)):=if_pos ⟨h1,h2⟩
   have e3:=v104 false false _ _ h1 h2 (Nat.mul_pos va.pos vb.pos) (fun h=>by cases h) (fun h=>by cases h)
   simp only [eQ] at e3
   simp [s51,e1,e2,p1,p2,q1,q2,h1,h2,e3,st2,ldc,hp,eQ]
   exact ⟨_,rfl,false,false,rfl,fun h=>(by cases h),fun h=>(by cases h)⟩
  ·have hp:pmul a b=none:=if_neg fun h=>h2 h.2
   simp [s51,e1,e2,p1,p2,q1,q2,h1,h2,bld0,st2,ldc,hp,RT,eQ]
 ·have hp:pmul a b=none:=if_neg fun h=>h1 h.1
  simp [s51,e1,e2,p1,p2,q1,h1,bld0,st2,ldc,hp,RT,eQ]
theorem v99 (a b:Fq) (da db:D) (ha:Rq a da) (hb:Rq b db) (va:VQ a) (vb:VQ b):∃ r,isoCall (call dp) 99 [da,db]=some r∧RT (padd a b) 6 r:=by
 have e1:=v55q ha va
 have e2:=v55q hb vb
 obtain ⟨n1,n2,rfl,f1,f2⟩:=ha
 obtain ⟨m1,m2,rfl,g1,g2⟩:=hb
 apply j99 _ _ _ (by simp [noRefL]) (fun r h=>h.noRef)
 have l1:=(lt128_iff _).1 va.f1
 have l2:=(lt128_iff _).1 va.f2
 have l3:=(lt128_iff _).1 vb.f1
 have l4:=(lt128_iff _).1 vb.f2
 have p1:=v73 n1 m2 (ofN a.1) (ofN b.2) (strip_lims n1 _ .ro) (strip_lims m2 _ .ro) (lim_ofN _) (lim_ofN _) (by omega) (by omega)
 have p2:=v73 m1 n2 (ofN b.1) (ofN a.2) (strip_lims m1 _ .ro) (strip_lims n2 _ .ro) (lim_ofN _) (lim_ofN _) (by omega) (by omega)
 have p3:=v73 n2 m2 (ofN a.2) (ofN b.2) (strip_lims n2 _ .ro) (strip_lims m2 _ .ro) (lim_ofN _) (lim_ofN _) (by omega) (by omega)
 rw [val_ofN,val_ofN] at p1 p2 p3
 have mlen:∀ x y,Lt128 x→Lt128 y→(ofN (x * y)).length≤256:=fun x y hx hy=>len_ofN (by
  have:=Nat.mul_lt_mul'' hx hy
  rwa [←Nat.pow_add] at this)
 have p4:=v162 false false (a.1 * b.2) (b.1 * a.2) (strip_lims false _ .ro) (strip_lims false _ .ro) (by have:=mlen _ _ va.f1 vb.f2;omega) (by have:=mlen _ _ vb.f1 va.f2;omega)
 have q1:=v103 false (ofN (a.1 * b.2)) (strip_lims false _ .ro)
 have q2:=v103 false (ofN (b.1 * a.2)) (strip_lims false _ .ro)
 have q3:=v103 false (ofN (a.2 * b.2)) (strip_lims false _ .ro)
 have q4:=v103 false (ofN (a.1 * b.2+b.1 * a.2)) (strip_lims false _ .ro)
 simp only [big_iff] at q1 q2 q3 q4
 simp only [eQ] at e1 e2
 by_cases h1:Lt128 (a.1 * b.2)
 ·by_cases h2:Lt128 (b.1 * a.2)
  ·by_cases h3:Lt128 (a.2 * b.2)
   ·by_cases h4:Lt128 (a.1 * b.2+b.1 * a.2)
    ·have hp:padd a b=some (red (a.1 * b.2+b.1 * a.2) (a.2 * b.2)):=if_pos ⟨⟨h1,h2,h3⟩,h4⟩
     have e3:=v104 false false _ _ h4 h3 (Nat.mul_pos va.pos vb.pos) (fun h=>by cases h) (fun h=>by cases h)
     simp only [eQ] at e3
     simp [s99,e1,e2,p1,p2,p3,p4,q1,q2,q3,q4,h1,h2,h3,h4,e3,st2,ldc,hp,eQ]
     exact ⟨_,rfl,false,false,rfl,fun h=>(by cases h),fun h=>(by cases h)⟩
    ·have hp:padd a b=none:=if_neg fun h=>h4 h.2
     simp [s99,e1,e2,p1,p2,p3,p4,q1,q2,q3,q4,h1,h2,h3,h4,bld0,st2,ldc,hp,RT,eQ]
   ·have hp:padd a b=none:=if_neg fun h=>h3 h.1.2.2
    simp [s99,e1,e2,p1,p2,p3,p4,q1,q2,q3,h1,h2,h3,bld0,st2,ldc,hp,RT,eQ]
  ·have hp:padd a b=none:=if_neg fun h=>h2 h.1.2.1
   simp [s99,e1,e2,p1,p2,p3,p4,q1,q2,h1,h2,bld0,st2,ldc,hp,RT,eQ]
 ·have hp:padd a b=none:=if_neg fun h=>h1 h.1.1
  simp [s99,e1,e2,p1,p2,p3,p4,q1,h1,bld0,st2,ldc,hp,RT,eQ]
theorem v50 (a:Fq) (da:D) (ha:Rq a da) (va:VQ a) (hle:a.1≤a.2):∃ r,isoCall (call dp) 50 [da]=some r∧RT (some (pcompl a)) 0 r:=by
 have e1:=v55q ha va
 obtain ⟨n1,n2,rfl,f1,f2⟩:=ha
 apply j50 _ _ (by simp [noRefL]) (fun r h=>h.noRef)
 have l1:=(lt128_iff _).1 va.f1
 have l2:=(lt128_iff _).1 va.f2
 have h101:=v101 n1 n2 a.1 a.2 (strip_lims n1 _ .ro) (strip_lims n2 _ .ro) (by omega) (by omega)
 have h102:=v102 n2 n1 a.2 a.1 (strip_lims n2 _ .ro) (strip_lims n1 _ .ro) (by omega) hle
 have hsg:binD .gtr .num (.i .i64 (sgn a.1 a.2)) (.i .i64 0)=some (.b false):=by
  rw [bin_gtr]
  congr 2
  unfold sgn
  by_cases h:a.1<a.2
  ·rw [if_pos h];rfl
  ·rw [if_neg h,if_pos (by omega)];rfl
 simp only [eQ] at e1
 simp only [bin_gtr] at hsg
 simp [s50,e1,h101,hsg,h102,bld2,st2,ldc]
 exact ⟨_,rfl,false,n2,rfl,fun h=>(by cases h),f2⟩
open Classical in
theorem v56 (n1 n2:Bool) (a b:List Nat) (la:Lim a) (lb:Lim b) (f1:NF n1 a) (f2:NF n2 b) (ba:Bd a.length) (bb:Bd b.length) :
  isoCall (call dp) 56 [eQ n1 n2 a b]=some (.b (decide (VR a b∧val a≤val b))):=by
 have e1:=v55 n1 n2 a b la lb f1 f2 ba bb
 apply i56 _ _ (by simp [noRefL]) rfl
 have hsg:binD .leq .num (.i .i64 (sgn (val a) (val b))) (.i .i64 0)=some (.b (decide (val a≤val b))):=by
  rw [bin_leq]
  congr 2
  unfold sgn
  by_cases h:val a<val b
  ·rw [if_pos h];simp;omega
  ·rw [if_neg h]
   by_cases h':val a=val b
   ·rw [if_pos h'];simp;omega
   ·rw [if_neg h'];simp;omega
 by_cases h:VR a b
 ·have ea:=ofN_val (h.1.1.1.can la)
  have eb:=ofN_val (h.1.1.2.can lb)
  have l1:=h.1.1.1.1
  have l2:=h.1.1.2.1
  have h101:=v101 n1 n2 (val a) (val b) (by rw [ea];exact strip_lims n1 a .ro) (by rw [eb];exact strip_lims n2 b .ro) (by rw [ea];omega) (by rw [eb];omega)
  simp only [eQ] at e1
  simp [s56,e1,h,h101,hsg,eQ]
 ·simp only [eQ] at e1
  simp [s56,e1,h,eQ]
theorem v45:isoCall (call dp) 45 []=some (eQ true false (ofN 0) (ofN 1)):=by
 apply i45 _ (by simp [noRefL]) (by simp)
 have hb:bldV [.sl 1 true [] .ro,.sl 1 true [] .ro] [(1,1,false,eLims false (ofN 1) .ro)]=some [eLims true (ofN 0) .ro,eLims false (ofN 1) .ro]:=by rw [ofN_zero];rfl
 have hone:=one_lims
 simp [s45,hone,hb,st2,ldc,eQ]
theorem v46:isoCall (call dp) 46 []=some (eQ false false (ofN 1) (ofN 1)):=by
 apply i46 _ (by simp [noRefL]) (by simp)
 have hone:=one_lims
 simp [s46,hone,bld2,st2,ldc,eQ]
def J57 (nl nl':Bool) (a b:List Nat):Nat→List D→Store→Prop:=fun q fr S=>∃ i a4 a14,q=b.length-i∧i≤b.length∧a.take i=b.take i∧S=[] ∧
 fr=mkf 26 [(0,eLims nl a .ro),(1,eLims nl' b .ro),(4,a4),(5,.i .i64 i),(14,a14)]
theorem v57 (nl nl':Bool) (a b:List Nat) (ha:Bd a.length):isoCall (call dp) 57 [eLims nl a .ro,eLims nl' b .ro]=some (.b (decide (a=b))):=by
 apply i57 _ _ _ (by simp [noRefL]) rfl
 simp only [s57,strip_lims,len_lims,OX_some,neq_nat]
 by_cases hl:a.length=b.length
 ·have hd:(!decide (a.length=b.length))=false:=by simp [hl]
  simp only [hd,WB_false]
  generalize hR:QS (call dp) c57_r0 _=R
  refine W_loop (J57 nl nl' a b) ?_ b.length _ _ ⟨0,.top,.top,by omega,by omega,by simp,rfl,rfl⟩
  rintro q fr S ⟨i,a4,a14,rfl,hi,he,rfl,rfl⟩
  rw [←wp_W,e57_0]
  by_cases hlt:i<b.length
  ·simp only [s57_0,len_lims,OX_some,lss_nat,hl,hlt,decide_true,WB_true,ia_lims hlt,ia_lims (show i<a.length by omega),ld_el1,neq_nat]
   by_cases hd:dg a i=dg b i
   ·simp only [hd,decide_true,Bool.not_true,WB_false,inc_nat (show Bd i by unfold Bd at *;omega),OX_some,Qseq_normal]
    exact ⟨b.length-(i+1),by omega,i+1,a4,.top,rfl,by omega,take_next he (get_dg (by omega)) (by rw [hd];exact get_dg hlt),rfl,rfl⟩
   ·have hne:¬a=b:=by rintro rfl;exact hd rfl
    simp only [hd,decide_false,Bool.not_false,WB_true,Qseq_ret,Qblk_ret]
    rw [←hR,QS_ret,FinK_ret1,decide_eq_false hne]
    rfl
  ·have:a=b:=take_full he (by omega) (by omega)
   subst this
   simp only [s57_0,len_lims,OX_some,lss_nat,hlt,decide_false,WB_false,Qseq_exit,Qblk_same]
   rw [←hR]
   simp only [QS_normal,e57_r0,s57_r0]
   rw [FinK_ret1]
   simp
 ·have hd:(!decide (a.length=b.length))=true:=by simp [hl]
  have hne:¬a=b:=by rintro rfl;exact hl rfl
  simp only [hd,WB_true,hne,decide_false,stripT_b]
theorem v16 (n1 n2 m1 m2:Bool) (a b c d:List Nat) (ha:Bd a.length) (hb:Bd b.length):isoCall (call dp) 16 [eQ n1 n2 a b,eQ m1 m2 c d]=some (.b (decide (a=c∧b=d))):=by
 apply i16 _ _ _ (by simp [noRefL]) rfl
 by_cases h1:a=c
 ·subst h1
  simp [s16,v57 n1 m1 a a ha,v57 n2 m2 b d hb]
 ·simp [s16,v57 n1 m1 a c ha,h1]
theorem v31 (n1 n2:Bool) (a b:List Nat) (k:Nat):isoCall (call dp) 31 [eQ n1 n2 a b,.i .i64 k]=some (.b (decide (a.length≤k∧b.length≤k))):=by
 apply i31 _ _ _ (by simp [noRefL]) rfl
 have hle:∀ x y:Nat,binD .leq .num (.i .i64 x) (.i .i64 y)=some (.b (decide (x≤y))):=fun x y=>by rw [bin_leq];simp
 by_cases h1:a.length≤k
 ·simp [s31,h1]
 ·simp [s31,h1]
end Go.Proofs.YtjniafcnjbbomaaGreatDoor.DE.V

namespace Go.Proofs.YtjniafcnjbbomaaGreatDoor.DE
open Go
def s52 (cf:CallF) (a0:D) (S:Store) (Post:D→Store→Prop):Prop:=
 bxx 2 true a0 S fun x1 S2=>
 OX (faD 0 x1) fun x3=>
 OX (ldD S2 1 false x3) fun x4=>
 OX (binD .geq .num x4 (.i .i64 1)) fun x5=>
 OX (gsel x5 true (faD 1 x1)) fun x6=>
 OX (gsel x5 true (ldD S2 1 false x6)) fun x7=>
 OX (gsel x5 true (binD .geq .num x7 (.i .i64 1))) fun x8=>
 OX (pickD x5 x8 (.b false)) fun x9=>
 Post x9 S2
theorem e52 (cf:CallF) (a0:D) (S:Store) (Post:D→Store→Prop):wp cf c52 (frame0 d52 [a0]) S (FinK d52.res Post)=s52 cf a0 S Post:=wpS_of (by kernel_rfl)
theorem i52 (a0:D) (r:D) (ha:noRefL (stripL [a0])=true) (hr:noRef r=true) (h:s52 (call dp) (strip a0) [] fun d _=>stripT d=r):isoCall (call dp) 52 [a0]=some r:=iso_s (f:=d52) rfl ⟨rfl,by decide⟩ ha hr (by rw [←e52] at h;exact h)
def s54 (cf:CallF) (a0:D) (S:Store) (Post:D→Store→Prop):Prop:=
 bxx 2 true a0 S fun x1 S2=>
 OX (faD 0 x1) fun x3=>
 OX (ldD S2 1 false x3) fun x4=>
 OX (binD .geq .num x4 (.i .i64 1)) fun x5=>
 OX (gsel x5 true (faD 1 x1)) fun x6=>
 OX (gsel x5 true (ldD S2 1 false x6)) fun x7=>
 OX (gsel x5 true (binD .geq .num x7 (.i .i64 1))) fun x8=>
 OX (pickD x5 x8 (.b false)) fun x9=>
 Post x9 S2
theorem e54 (cf:CallF) (a0:D) (S:Store) (Post:D→Store→Prop):wp cf c54 (frame0 d54 [a0]) S (FinK d54.res Post)=s54 cf a0 S Post:=wpS_of (by kernel_rfl)
theorem i54 (a0:D) (r:D) (ha:noRefL (stripL [a0])=true) (hr:noRef r=true) (h:s54 (call dp) (strip a0) [] fun d _=>stripT d=r):isoCall (call dp) 54 [a0]=some r:=iso_s (f:=d54) rfl ⟨rfl,by decide⟩ ha hr (by rw [←e54] at h;exact h)
def s14_r0 (cf:CallF) (a2:D) (a3:D) (a7:D) (a8:D) (a9:D) (a10:D) (S:Store) (Q:Ex→List D→Store→Prop):Prop:=
 Q .ret (mkf 39 [(2,(.b true)),(3,.top),(7,.top),(8,.top),(9,.top),(10,.top)]) S
theorem e14_r0 (cf:CallF) (a2:D) (a3:D) (a7:D) (a8:D) (a9:D) (a10:D) (S:Store) (Q:Ex→List D→Store→Prop):wp cf c14_r0 (mkf 39 [(2,a2),(3,a3),(7,a7),(8,a8),(9,a9),(10,a10)]) S Q=s14_r0 cf a2 a3 a7 a8 a9 a10 S Q:=wpS_of (by kernel_rfl)
def s14_0 (cf:CallF) (a2:D) (a3:D) (a7:D) (a8:D) (a9:D) (a10:D) (S:Store) (Q:Ex→List D→Store→Prop):Prop:=
 OX (binD .lss .num a9 a8) fun x1=>
 WB x1
 (OX (iaD 4 a7 a9) fun x2=>
 OX (ldD S 4 true x2) fun x3=>
 al [.i .i64 0,.i .i64 0,.sl 1 true [] .ro,.sl 1 true [] .ro] S fun x4 S5=>
 OX (stD S5 4 true x4 x3) fun S7=>
 OX (faD 0 x4) fun x8=>
 OX (ldD S7 2 true x8) fun x9=>
 OX (isoCall cf 52 [x9]) fun x10=>
 OX (unD .not x10) fun x11=>
 OX (gsel x11 false (faD 2 x4)) fun x12=>
 OX (gsel x11 false (ldD S7 2 true x12)) fun x13=>
 OX (gsel x11 false (isoCall cf 53 [x13])) fun x14=>
 OX (gsel x11 false (unD .not x14)) fun x15=>
 OX (pickD x11 (.b true) x15) fun x16=>
 OX (gsel x16 false (faD 2 x4)) fun x17=>
 OX (gsel x16 false (ldD S7 2 true x17)) fun x18=>
 OX (gsel x16 false (isoCall cf 30 [x18])) fun x19=>
 OX (gsel x16 false (unD .not x19)) fun x20=>
 OX (pickD x16 (.b true) x20) fun x21=>
 OX (gsel x21 false (some a3)) fun x22=>
 OX (gsel x21 false (faD 0 x4)) fun x23=>
 OX (gsel x21 false (ldD S7 2 true x23)) fun x24=>
 OX (gsel x21 false (lkD' (.agg [.i,.i]) false (.b false) S7 x22 x24)) fun x25=>
 OX (pickD x21 (.b true) x25) fun x26=>
 WB x26
 (Q .ret (mkf 39 [(2,(.b false)),(3,.top),(7,.top),(8,.top),(9,.top),(10,.top)]) S7)
 (OX (faD 0 x4) fun x27=>
 OX (ldD S7 2 true x27) fun x28=>
 OX (muD' (.agg [.i,.i]) S7 a3 x28 (.b true)) fun S30=>
 OX (binD .add .num a9 (.i .i64 1)) fun x31=>
 Q .normal (mkf 39 [(2,a2),(3,a3),(7,a7),(8,a8),(9,x31),(10,.top)]) S30))
 (Q (.exit 0) (mkf 39 [(2,a2),(3,a3),(7,a7),(8,a8),(9,a9),(10,x1)]) S)
theorem e14_0 (cf:CallF) (a2:D) (a3:D) (a7:D) (a8:D) (a9:D) (a10:D) (S:Store) (Q:Ex→List D→Store→Prop):wp cf c14_0 (fkill (mkf 39 [(2,a2),(3,a3),(7,a7),(8,a8),(9,a9),(10,a10)]) []) S Q=s14_0 cf a2 a3 a7 a8 a9 a10 S Q:=wpS_of (by kernel_rfl)
def s14 (cf:CallF) (a0:D) (S:Store) (Post:D→Store→Prop):Prop:=
 mm S fun x32 S33=>
 OX (lenD false a0) fun x34=>
 W cf (.loop [] c14_0) (mkf 39 [(2,.top),(3,x32),(7,a0),(8,x34),(9,(.i .i64 0)),(10,.top)]) S33 (Qblk 0 (QS cf c14_r0 (FinK [.t 2] Post)))
theorem e14 (cf:CallF) (a0:D) (S:Store) (Post:D→Store→Prop):wp cf c14 (frame0 d14 [a0]) S (FinK d14.res Post)=s14 cf a0 S Post:=wpS_of (by kernel_rfl)
theorem i14 (a0:D) (r:D) (ha:noRefL (stripL [a0])=true) (hr:noRef r=true) (h:s14 (call dp) (strip a0) [] fun d _=>stripT d=r):isoCall (call dp) 14 [a0]=some r:=iso_s (f:=d14) rfl ⟨rfl,by decide⟩ ha hr (by rw [←e14] at h;exact h)
def s15_r0 (cf:CallF) (a0:D) (a2:D) (a3:D) (a4:D) (a8:D) (a38:D) (S:Store) (Q:Ex→List D→Store→Prop):Prop:=
 OX (binD .add .num a3 (.i .i64 1)) fun x1=>
 Q .normal (mkf 52 [(0,a0),(2,a2),(3,x1),(4,.top),(8,a8),(38,.top)]) S
theorem e15_r0 (cf:CallF) (a0:D) (a2:D) (a3:D) (a4:D) (a8:D) (a38:D) (S:Store) (Q:Ex→List D→Store→Prop):wp cf c15_r0 (mkf 52 [(0,a0),(2,a2),(3,a3),(4,a4),(8,a8),(38,a38)]) S Q=s15_r0 cf a0 a2 a3 a4 a8 a38 S Q:=wpS_of (by kernel_rfl)
def s15_0 (cf:CallF) (a0:D) (a2:D) (a3:D) (a4:D) (a8:D) (a38:D) (S:Store) (Q:Ex→List D→Store→Prop):Prop:=
 OX (binD .lss .num a4 a3) fun x2=>
 WB x2
 (OX (iaD 4 a0 a4) fun x3=>
 OX (faD 0 x3) fun x4=>
 OX (ldD S 2 true x4) fun x5=>
 OX (iaD 4 a0 a3) fun x6=>
 OX (faD 0 x6) fun x7=>
 OX (ldD S 2 true x7) fun x8=>
 OX (binD .eql (.agg [.i,.i]) x5 x8) fun x9=>
 WB x9
 (Q .ret (mkf 52 [(0,.top),(2,(.b false)),(3,.top),(4,.top),(8,a8),(38,.top)]) S)
 (OX (binD .add .num a4 (.i .i64 1)) fun x10=>
 Q .normal (mkf 52 [(0,a0),(2,a2),(3,a3),(4,x10),(8,a8),(38,.top)]) S))
 (Q (.exit 2) (mkf 52 [(0,a0),(2,a2),(3,a3),(4,a4),(8,a8),(38,x2)]) S)
theorem e15_0 (cf:CallF) (a0:D) (a2:D) (a3:D) (a4:D) (a8:D) (a38:D) (S:Store) (Q:Ex→List D→Store→Prop):wp cf c15_0 (fkill (mkf 52 [(0,a0),(2,a2),(3,a3),(4,a4),(8,a8),(38,a38)]) []) S Q=s15_0 cf a0 a2 a3 a4 a8 a38 S Q:=wpS_of (by kernel_rfl)
def s15_r1 (cf:CallF) (a0:D) (a2:D) (a3:D) (a4:D) (a8:D) (a38:D) (S:Store) (Q:Ex→List D→Store→Prop):Prop:=
 Q .ret (mkf 52 [(0,.top),(2,(.b true)),(3,.top),(4,a4),(8,.top),(38,a38)]) S
theorem e15_r1 (cf:CallF) (a0:D) (a2:D) (a3:D) (a4:D) (a8:D) (a38:D) (S:Store) (Q:Ex→List D→Store→Prop):wp cf c15_r1 (mkf 52 [(0,a0),(2,a2),(3,a3),(4,a4),(8,a8),(38,a38)]) S Q=s15_r1 cf a0 a2 a3 a4 a8 a38 S Q:=wpS_of (by kernel_rfl)
def s15_1 (cf:CallF) (a0:D) (a2:D) (a3:D) (a4:D) (a8:D) (a38:D) (S:Store) (Q:Ex→List D→Store→Prop):Prop:=
 OX (lenD false a0) fun x11=>
 OX (binD .lss .num a3 x11) fun x12=>
 WB x12
 (OX (iaD 4 a0 a3) fun x13=>
 OX (faD 0 x13) fun x14=>
 OX (ldD S 2 true x14) fun x15=>
 OX (isoCall cf 54 [x15]) fun x16=>
 OX (unD .not x16) fun x17=>
 OX (gsel x17 false (some a0)) fun x18=>
 OX (gsel x17 false (some a3)) fun x19=>
 OX (gsel x17 false (iaD 4 x18 x19)) fun x20=>
 OX (gsel x17 false (faD 2 x20)) fun x21=>
 OX (gsel x17 false (ldD S 2 true x21)) fun x22=>
 OX (gsel x17 false (isoCall cf 55 [x22])) fun x23=>
 OX (gsel x17 false (unD .not x23)) fun x24=>
 OX (pickD x17 (.b true) x24) fun x25=>
 OX (gsel x25 false (some a0)) fun x26=>
 OX (gsel x25 false (some a3)) fun x27=>
 OX (gsel x25 false (iaD 4 x26 x27)) fun x28=>
 OX (gsel x25 false (faD 2 x28)) fun x29=>
 OX (gsel x25 false (ldD S 2 true x29)) fun x30=>
 OX (gsel x25 false (isoCall cf 56 [x30])) fun x31=>
 OX (gsel x25 false (unD .not x31)) fun x32=>
 OX (pickD x25 (.b true) x32) fun x33=>
 WB x33
 (Q .ret (mkf 52 [(0,.top),(2,(.b false)),(3,.top),(4,a4),(8,.top),(38,a38)]) S)
 (W cf (.loop [] c15_0) (mkf 52 [(0,a0),(2,a2),(3,a3),(4,(.i .i64 0)),(8,.top),(38,a38)]) S (Qblk 2 (Qblk 1 (QS cf c15_r0 Q)))))
 (Q (.exit 0) (mkf 52 [(0,a0),(2,a2),(3,a3),(4,a4),(8,x12),(38,a38)]) S)
theorem e15_1 (cf:CallF) (a0:D) (a2:D) (a3:D) (a4:D) (a8:D) (a38:D) (S:Store) (Q:Ex→List D→Store→Prop):wp cf c15_1 (fkill (mkf 52 [(0,a0),(2,a2),(3,a3),(4,a4),(8,a8),(38,a38)]) []) S Q=s15_1 cf a0 a2 a3 a4 a8 a38 S Q:=wpS_of (by kernel_rfl)
def s15 (cf:CallF) (a0:D) (S:Store) (Post:D→Store→Prop):Prop:=
 W cf (.loop [] c15_1) (mkf 52 [(0,a0),(2,.top),(3,(.i .i64 0)),(4,.top),(8,.top),(38,.top)]) S (Qblk 0 (QS cf c15_r1 (FinK [.t 2] Post)))
theorem e15 (cf:CallF) (a0:D) (S:Store) (Post:D→Store→Prop):wp cf c15 (frame0 d15 [a0]) S (FinK d15.res Post)=s15 cf a0 S Post:=wpS_of (by kernel_rfl)
theorem i15 (a0:D) (r:D) (ha:noRefL (stripL [a0])=true) (hr:noRef r=true) (h:s15 (call dp) (strip a0) [] fun d _=>stripT d=r):isoCall (call dp) 15 [a0]=some r:=iso_s (f:=d15) rfl ⟨rfl,by decide⟩ ha hr (by rw [←e15] at h;exact h)
def s17 (cf:CallF) (a0:D) (a1:D) (S:Store) (Post:D→Store→Prop):Prop:=
 bxx 2 true a0 S fun x1 S2=>
 al [.sl 1 true [] .ro,.sl 1 true [] .ro] S2 fun x3 S4=>
 OX (cf 58 [a1,(.fn 59 [x1])] S4) fun p6=>
 OX (binD .lss .num p6.1 (.i .i64 0)) fun x7=>
 WB x7
 (OX (isoCall cf 28 []) fun x8=>
 OX (stD p6.2 2 true x3 x8) fun S10=>
 OX (ldc S10 2 true x3) fun x11=>Post x11 S10)
 (OX (iaD 4 a1 p6.1) fun x12=>
 OX (faD 2 x12) fun x13=>
 OX (ldD p6.2 2 true x13) fun x14=>
 OX (isoCall cf 60 [x14]) fun x15=>
 OX (stD p6.2 2 true x3 x15) fun S17=>
 OX (ldc S17 2 true x3) fun x18=>Post x18 S17)
theorem e17 (cf:CallF) (a0:D) (a1:D) (S:Store) (Post:D→Store→Prop):wp cf c17 (frame0 d17 [a0,a1]) S (FinK d17.res Post)=s17 cf a0 a1 S Post:=wpS_of (by kernel_rfl)
theorem i17 (a0:D) (a1:D) (r:D) (ha:noRefL (stripL [a0,a1])=true) (hr:noRef r=true) (h:s17 (call dp) (strip a0) (strip a1) [] fun d _=>stripT d=r):isoCall (call dp) 17 [a0,a1]=some r:=iso_s (f:=d17) rfl ⟨rfl,by decide⟩ ha hr (by rw [←e17] at h;exact h)
def s59 (cf:CallF) (a0:D) (a1:D) (S:Store) (Post:D→Store→Prop):Prop:=
 bxx 4 true a0 S fun x1 S2=>
 OX (faD 0 x1) fun x3=>
 OX (ldD S2 2 true x3) fun x4=>
 OX (ldD S2 2 true a1) fun x5=>
 OX (binD .eql (.agg [.i,.i]) x4 x5) fun x6=>
 Post x6 S2
theorem e59 (cf:CallF) (a0:D) (a1:D) (S:Store) (Post:D→Store→Prop):wp cf c59 (frame0 d59 [a0,a1]) S (FinK d59.res Post)=s59 cf a0 a1 S Post:=wpS_of (by kernel_rfl)
theorem f59 (a0:D) (a1:D) (S:Store) (Post:D→Store→Prop) (h:s59 (call dp) a0 a1 S Post):∃ r S',call dp 59 [a0,a1] S=some (r,S')∧Post r S':=call_s (f:=d59) rfl ⟨rfl,by decide⟩ (by rw [←e59] at h;exact h)
def s58_r0 (cf:CallF) (a0:D) (a1:D) (a4:D) (a7:D) (a8:D) (a9:D) (S:Store) (Q:Ex→List D→Store→Prop):Prop:=
 Q .ret (mkf 19 [(0,.top),(1,.top),(4,(.i .i64 (-1))),(7,.top),(8,.top),(9,.top)]) S
theorem e58_r0 (cf:CallF) (a0:D) (a1:D) (a4:D) (a7:D) (a8:D) (a9:D) (S:Store) (Q:Ex→List D→Store→Prop):wp cf c58_r0 (mkf 19 [(0,a0),(1,a1),(4,a4),(7,a7),(8,a8),(9,a9)]) S Q=s58_r0 cf a0 a1 a4 a7 a8 a9 S Q:=wpS_of (by kernel_rfl)
def s58_0 (cf:CallF) (a0:D) (a1:D) (a4:D) (a7:D) (a8:D) (a9:D) (S:Store) (Q:Ex→List D→Store→Prop):Prop:=
 OX (binD .lss .num a8 a7) fun x1=>
 WB x1
 (OX (iaD 4 a0 a8) fun x2=>
 OX (ldD S 4 true x2) fun x3=>
 OX (fnD a1) fun q5=>OX (cf q5.1 ([x3]++q5.2) S) fun p6=>
 WB p6.1
 (Q .ret (mkf 19 [(0,.top),(1,.top),(4,a8),(7,.top),(8,.top),(9,.top)]) p6.2)
 (OX (binD .add .num a8 (.i .i64 1)) fun x7=>
 Q .normal (mkf 19 [(0,a0),(1,a1),(4,a4),(7,a7),(8,x7),(9,.top)]) p6.2))
 (Q (.exit 0) (mkf 19 [(0,a0),(1,a1),(4,a4),(7,a7),(8,a8),(9,x1)]) S)
theorem e58_0 (cf:CallF) (a0:D) (a1:D) (a4:D) (a7:D) (a8:D) (a9:D) (S:Store) (Q:Ex→List D→Store→Prop):wp cf c58_0 (fkill (mkf 19 [(0,a0),(1,a1),(4,a4),(7,a7),(8,a8),(9,a9)]) []) S Q=s58_0 cf a0 a1 a4 a7 a8 a9 S Q:=wpS_of (by kernel_rfl)
def s58 (cf:CallF) (a0:D) (a1:D) (S:Store) (Post:D→Store→Prop):Prop:=
 OX (lenD false a0) fun x8=>
 W cf (.loop [] c58_0) (mkf 19 [(0,a0),(1,a1),(4,.top),(7,x8),(8,(.i .i64 0)),(9,.top)]) S (Qblk 0 (QS cf c58_r0 (FinK [.t 4] Post)))
theorem e58 (cf:CallF) (a0:D) (a1:D) (S:Store) (Post:D→Store→Prop):wp cf c58 (frame0 d58 [a0,a1]) S (FinK d58.res Post)=s58 cf a0 a1 S Post:=wpS_of (by kernel_rfl)
theorem f58 (a0:D) (a1:D) (S:Store) (Post:D→Store→Prop) (h:s58 (call dp) a0 a1 S Post):∃ r S',call dp 58 [a0,a1] S=some (r,S')∧Post r S':=call_s (f:=d58) rfl ⟨rfl,by decide⟩ (by rw [←e58] at h;exact h)
def s60 (cf:CallF) (a0:D) (S:Store) (Post:D→Store→Prop):Prop:=
 bxx 2 true a0 S fun x1 S2=>
 al [.sl 1 true [] .ro,.sl 1 true [] .ro] S2 fun x3 S4=>
 OX (faD 0 x1) fun x5=>
 OX (ldD S4 1 false x5) fun x6=>
 OX (isoCall cf 110 [x6]) fun x7=>
 OX (faD 1 x1) fun x8=>
 OX (ldD S4 1 false x8) fun x9=>
 OX (isoCall cf 110 [x9]) fun x10=>
 OX (bldV [.sl 1 true [] .ro,.sl 1 true [] .ro] [(0,1,false,x7),(1,1,false,x10)]) fun x11=>
 OX (stD S4 2 true x3 (.agg x11)) fun S13=>
 OX (ldc S13 2 true x3) fun x14=>Post x14 S13
theorem e60 (cf:CallF) (a0:D) (S:Store) (Post:D→Store→Prop):wp cf c60 (frame0 d60 [a0]) S (FinK d60.res Post)=s60 cf a0 S Post:=wpS_of (by kernel_rfl)
theorem i60 (a0:D) (r:D) (ha:noRefL (stripL [a0])=true) (hr:noRef r=true) (h:s60 (call dp) (strip a0) [] fun d _=>stripT d=r):isoCall (call dp) 60 [a0]=some r:=iso_s (f:=d60) rfl ⟨rfl,by decide⟩ ha hr (by rw [←e60] at h;exact h)
def s18_r0 (cf:CallF) (a1:D) (a2:D) (a4:D) (a5:D) (a9:D) (S:Store) (Q:Ex→List D→Store→Prop):Prop:=
 OX (isoCall cf 46 []) fun x1=>
 OX (stD S 2 true a4 x1) fun S3=>
 Q .ret (mkf 25 [(1,.top),(2,.top),(4,a4),(5,.top),(9,.top)]) S3
theorem e18_r0 (cf:CallF) (a1:D) (a2:D) (a4:D) (a5:D) (a9:D) (S:Store) (Q:Ex→List D→Store→Prop):wp cf c18_r0 (mkf 25 [(1,a1),(2,a2),(4,a4),(5,a5),(9,a9)]) S Q=s18_r0 cf a1 a2 a4 a5 a9 S Q:=wpS_of (by kernel_rfl)
def s18_0 (cf:CallF) (a1:D) (a2:D) (a4:D) (a5:D) (a9:D) (S:Store) (Q:Ex→List D→Store→Prop):Prop:=
 OX (lenD false a1) fun x4=>
 OX (binD .lss .num a5 x4) fun x5=>
 WB x5
 (OX (iaD 4 a1 a5) fun x6=>
 OX (faD 0 x6) fun x7=>
 OX (ldD S 2 true x7) fun x8=>
 OX (ldD S 2 true a2) fun x9=>
 OX (binD .eql (.agg [.i,.i]) x8 x9) fun x10=>
 WB x10
 (OX (iaD 4 a1 a5) fun x11=>
 OX (faD 2 x11) fun x12=>
 OX (ldD S 2 true x12) fun x13=>
 OX (stD S 2 true a4 x13) fun S15=>
 Q .ret (mkf 25 [(1,.top),(2,.top),(4,a4),(5,.top),(9,.top)]) S15)
 (OX (binD .add .num a5 (.i .i64 1)) fun x16=>
 Q .normal (mkf 25 [(1,a1),(2,a2),(4,a4),(5,x16),(9,.top)]) S))
 (Q (.exit 0) (mkf 25 [(1,a1),(2,a2),(4,a4),(5,a5),(9,x5)]) S)
theorem e18_0 (cf:CallF) (a1:D) (a2:D) (a4:D) (a5:D) (a9:D) (S:Store) (Q:Ex→List D→Store→Prop):wp cf c18_0 (fkill (mkf 25 [(1,a1),(2,a2),(4,a4),(5,a5),(9,a9)]) []) S Q=s18_0 cf a1 a2 a4 a5 a9 S Q:=wpS_of (by kernel_rfl)
def s18 (cf:CallF) (a0:D) (a1:D) (S:Store) (Post:D→Store→Prop):Prop:=
 bxx 2 true a0 S fun x17 S18=>
 al [.sl 1 true [] .ro,.sl 1 true [] .ro] S18 fun x19 S20=>
 W cf (.loop [] c18_0) (mkf 25 [(1,a1),(2,x17),(4,x19),(5,(.i .i64 0)),(9,.top)]) S20 (Qblk 0 (QS cf c18_r0 (FinK [.cell 4 2 true] Post)))
theorem e18 (cf:CallF) (a0:D) (a1:D) (S:Store) (Post:D→Store→Prop):wp cf c18 (frame0 d18 [a0,a1]) S (FinK d18.res Post)=s18 cf a0 a1 S Post:=wpS_of (by kernel_rfl)
theorem i18 (a0:D) (a1:D) (r:D) (ha:noRefL (stripL [a0,a1])=true) (hr:noRef r=true) (h:s18 (call dp) (strip a0) (strip a1) [] fun d _=>stripT d=r):isoCall (call dp) 18 [a0,a1]=some r:=iso_s (f:=d18) rfl ⟨rfl,by decide⟩ ha hr (by rw [←e18] at h;exact h)
def s7_r0 (cf:CallF) (a0:D) (a2:D) (a3:D) (a7:D) (S:Store) (Q:Ex→List D→Store→Prop):Prop:=
 OX (lenD false a0) fun x1=>
 OX (binD .leq .num x1 (.i .i64 8)) fun x2=>
 Q .ret (mkf 20 [(0,.top),(2,x2),(3,.top),(7,.top)]) S
theorem e7_r0 (cf:CallF) (a0:D) (a2:D) (a3:D) (a7:D) (S:Store) (Q:Ex→List D→Store→Prop):wp cf c7_r0 (mkf 20 [(0,a0),(2,a2),(3,a3),(7,a7)]) S Q=s7_r0 cf a0 a2 a3 a7 S Q:=wpS_of (by kernel_rfl)
def s7_0 (cf:CallF) (a0:D) (a2:D) (a3:D) (a7:D) (S:Store) (Q:Ex→List D→Store→Prop):Prop:=
 OX (lenD false a0) fun x3=>
 OX (binD .lss .num a3 x3) fun x4=>
 WB x4
 (OX (iaD 4 a0 a3) fun x5=>
 OX (faD 2 x5) fun x6=>
 OX (ldD S 2 true x6) fun x7=>
 OX (isoCall cf 31 [x7,(.i .i64 4)]) fun x8=>
 OX (unD .not x8) fun x9=>
 WB x9
 (Q .ret (mkf 20 [(0,.top),(2,(.b false)),(3,.top),(7,.top)]) S)
 (OX (binD .add .num a3 (.i .i64 1)) fun x10=>
 Q .normal (mkf 20 [(0,a0),(2,a2),(3,x10),(7,.top)]) S))
 (Q (.exit 0) (mkf 20 [(0,a0),(2,a2),(3,a3),(7,x4)]) S)
theorem e7_0 (cf:CallF) (a0:D) (a2:D) (a3:D) (a7:D) (S:Store) (Q:Ex→List D→Store→Prop):wp cf c7_0 (fkill (mkf 20 [(0,a0),(2,a2),(3,a3),(7,a7)]) []) S Q=s7_0 cf a0 a2 a3 a7 S Q:=wpS_of (by kernel_rfl)
def s7 (cf:CallF) (a0:D) (S:Store) (Post:D→Store→Prop):Prop:=
 W cf (.loop [] c7_0) (mkf 20 [(0,a0),(2,.top),(3,(.i .i64 0)),(7,.top)]) S (Qblk 0 (QS cf c7_r0 (FinK [.t 2] Post)))
theorem e7 (cf:CallF) (a0:D) (S:Store) (Post:D→Store→Prop):wp cf c7 (frame0 d7 [a0]) S (FinK d7.res Post)=s7 cf a0 S Post:=wpS_of (by kernel_rfl)
theorem i7 (a0:D) (r:D) (ha:noRefL (stripL [a0])=true) (hr:noRef r=true) (h:s7 (call dp) (strip a0) [] fun d _=>stripT d=r):isoCall (call dp) 7 [a0]=some r:=iso_s (f:=d7) rfl ⟨rfl,by decide⟩ ha hr (by rw [←e7] at h;exact h)
theorem f7 (a0:D) (S:Store) (Post:D→Store→Prop) (h:s7 (call dp) a0 S Post):∃ r S',call dp 7 [a0] S=some (r,S')∧Post r S':=call_s (f:=d7) rfl ⟨rfl,by decide⟩ (by rw [←e7] at h;exact h)
def s11 (cf:CallF) (a0:D) (a1:D) (a2:D) (a3:D) (S:Store) (Post:D→Store→Prop):Prop:=
 bxx 2 true a0 S fun x1 S2=>
 bxx 2 true a2 S2 fun x3 S4=>
 OX (binD .eql .num a1 a3) fun x5=>
 OX (gsel x5 true (ldD S4 2 true x1)) fun x6=>
 OX (gsel x5 true (ldD S4 2 true x3)) fun x7=>
 OX (gsel x5 true (isoCall cf 16 [x6,x7])) fun x8=>
 OX (pickD x5 x8 (.b false)) fun x9=>
 Post x9 S4
theorem e11 (cf:CallF) (a0:D) (a1:D) (a2:D) (a3:D) (S:Store) (Post:D→Store→Prop):wp cf c11 (frame0 d11 [a0,a1,a2,a3]) S (FinK d11.res Post)=s11 cf a0 a1 a2 a3 S Post:=wpS_of (by kernel_rfl)
theorem i11 (a0:D) (a1:D) (a2:D) (a3:D) (r:D) (ha:noRefL (stripL [a0,a1,a2,a3])=true) (hr:noRef r=true) (h:s11 (call dp) (strip a0) (strip a1) (strip a2) (strip a3) [] fun d _=>stripT d=r):isoCall (call dp) 11 [a0,a1,a2,a3]=some r:=iso_s (f:=d11) rfl ⟨rfl,by decide⟩ ha hr (by rw [←e11] at h;exact h)
def s40 (cf:CallF) (a0:D) (a1:D) (a2:D) (S:Store) (Post:D→Store→Prop):Prop:=
 bxx 2 true a1 S fun x1 S2=>
 bxx 2 true a2 S2 fun x3 S4=>
 al [.sl 1 true [] .ro,.sl 1 true [] .ro] S4 fun x5 S6=>
 OX (ldD S6 2 true x1) fun x7=>
 OX (ldD S6 2 true x3) fun x8=>
 OX (cf 93 [a0,(.fn 29 []),x7,x8] S6) fun p10=>
 OX (stD p10.2 2 true x5 p10.1) fun S12=>
 OX (ldc S12 2 true x5) fun x13=>Post x13 S12
theorem e40 (cf:CallF) (a0:D) (a1:D) (a2:D) (S:Store) (Post:D→Store→Prop):wp cf c40 (frame0 d40 [a0,a1,a2]) S (FinK d40.res Post)=s40 cf a0 a1 a2 S Post:=wpS_of (by kernel_rfl)
theorem f40 (a0:D) (a1:D) (a2:D) (S:Store) (Post:D→Store→Prop) (h:s40 (call dp) a0 a1 a2 S Post):∃ r S',call dp 40 [a0,a1,a2] S=some (r,S')∧Post r S':=call_s (f:=d40) rfl ⟨rfl,by decide⟩ (by rw [←e40] at h;exact h)
def s41 (cf:CallF) (a0:D) (a1:D) (S:Store) (Post:D→Store→Prop):Prop:=
 bxx 2 true a1 S fun x1 S2=>
 al [.sl 1 true [] .ro,.sl 1 true [] .ro] S2 fun x3 S4=>
 OX (ldD S4 2 true x1) fun x5=>
 OX (isoCall cf 95 [x5]) fun x6=>
 OX (extD x6 0) fun x7=>
 OX (extD x6 1) fun x8=>
 OX (cf 94 [a0,x7,x8] S4) fun p10=>
 OX (stD p10.2 2 true x3 p10.1) fun S12=>
 OX (ldc S12 2 true x3) fun x13=>Post x13 S12
theorem e41 (cf:CallF) (a0:D) (a1:D) (S:Store) (Post:D→Store→Prop):wp cf c41 (frame0 d41 [a0,a1]) S (FinK d41.res Post)=s41 cf a0 a1 S Post:=wpS_of (by kernel_rfl)
theorem i41 (a0:D) (a1:D) (r:D) (ha:noRefL (stripL [a0,a1])=true) (hr:noRef r=true) (h:s41 (call dp) (strip a0) (strip a1) [] fun d _=>stripT d=r):isoCall (call dp) 41 [a0,a1]=some r:=iso_s (f:=d41) rfl ⟨rfl,by decide⟩ ha hr (by rw [←e41] at h;exact h)
theorem f41 (a0:D) (a1:D) (S:Store) (Post:D→Store→Prop) (h:s41 (call dp) a0 a1 S Post):∃ r S',call dp 41 [a0,a1] S=some (r,S')∧Post r S':=call_s (f:=d41) rfl ⟨rfl,by decide⟩ (by rw [←e41] at h;exact h)
def s42 (cf:CallF) (a0:D) (a1:D) (a2:D) (S:Store) (Post:D→Store→Prop):Prop:=
 bxx 2 true a1 S fun x1 S2=>
 bxx 2 true a2 S2 fun x3 S4=>
 al [.sl 1 true [] .ro,.sl 1 true [] .ro] S4 fun x5 S6=>
 OX (ldD S6 2 true x1) fun x7=>
 OX (ldD S6 2 true x3) fun x8=>
 OX (cf 93 [a0,(.fn 27 []),x7,x8] S6) fun p10=>
 OX (stD p10.2 2 true x5 p10.1) fun S12=>
 OX (ldc S12 2 true x5) fun x13=>Post x13 S12
theorem e42 (cf:CallF) (a0:D) (a1:D) (a2:D) (S:Store) (Post:D→Store→Prop):wp cf c42 (frame0 d42 [a0,a1,a2]) S (FinK d42.res Post)=s42 cf a0 a1 a2 S Post:=wpS_of (by kernel_rfl)
theorem f42 (a0:D) (a1:D) (a2:D) (S:Store) (Post:D→Store→Prop) (h:s42 (call dp) a0 a1 a2 S Post):∃ r S',call dp 42 [a0,a1,a2] S=some (r,S')∧Post r S':=call_s (f:=d42) rfl ⟨rfl,by decide⟩ (by rw [←e42] at h;exact h)
def s93 (cf:CallF) (a0:D) (a1:D) (a2:D) (a3:D) (S:Store) (Post:D→Store→Prop):Prop:=
 bxx 2 true a2 S fun x1 S2=>
 bxx 2 true a3 S2 fun x3 S4=>
 al [.sl 1 true [] .ro,.sl 1 true [] .ro] S4 fun x5 S6=>
 OX (nilckD a0) fun x7=>
 OX (faD 0 x7) fun x8=>
 OX (ldD S6 1 false x8) fun x9=>
 OX (binD .neq .num x9 (.i .i64 0)) fun x10=>
 WB x10
 (OX (bldV [.sl 1 true [] .ro,.sl 1 true [] .ro] []) fun x11=>
 OX (stD S6 2 true x5 (.agg x11)) fun S13=>
 OX (ldc S13 2 true x5) fun x14=>Post x14 S13)
 (OX (ldD S6 2 true x1) fun x15=>
 OX (ldD S6 2 true x3) fun x16=>
 OX (fnD a1) fun q18=>OX (isoCall cf q18.1 ([x15,x16]++q18.2)) fun x17=>
 OX (extD x17 0) fun x19=>
 OX (extD x17 1) fun x20=>
 OX (cf 94 [a0,x19,x20] S6) fun p22=>
 OX (stD p22.2 2 true x5 p22.1) fun S24=>
 OX (ldc S24 2 true x5) fun x25=>Post x25 S24)
theorem e93 (cf:CallF) (a0:D) (a1:D) (a2:D) (a3:D) (S:Store) (Post:D→Store→Prop):wp cf c93 (frame0 d93 [a0,a1,a2,a3]) S (FinK d93.res Post)=s93 cf a0 a1 a2 a3 S Post:=wpS_of (by kernel_rfl)
theorem f93 (a0:D) (a1:D) (a2:D) (a3:D) (S:Store) (Post:D→Store→Prop) (h:s93 (call dp) a0 a1 a2 a3 S Post):∃ r S',call dp 93 [a0,a1,a2,a3] S=some (r,S')∧Post r S':=call_s (f:=d93) rfl ⟨rfl,by decide⟩ (by rw [←e93] at h;exact h)
def s94 (cf:CallF) (a0:D) (a1:D) (a2:D) (S:Store) (Post:D→Store→Prop):Prop:=
 bxx 2 true a1 S fun x1 S2=>
 al [.sl 1 true [] .ro,.sl 1 true [] .ro] S2 fun x3 S4=>
 OX (nilckD a0) fun x5=>
 OX (faD 0 x5) fun x6=>
 OX (ldD S4 1 false x6) fun x7=>
 OX (binD .neq .num x7 (.i .i64 0)) fun x8=>
 WB x8
 (OX (bldV [.sl 1 true [] .ro,.sl 1 true [] .ro] []) fun x9=>
 OX (stD S4 2 true x3 (.agg x9)) fun S11=>
 OX (ldc S11 2 true x3) fun x12=>Post x12 S11)
 (OX (nilckD a0) fun x13=>
 OX (faD 0 x13) fun x14=>
 OX (stD S4 1 false x14 a2) fun S16=>
 OX (ldD S16 2 true x1) fun x17=>
 OX (stD S16 2 true x3 x17) fun S19=>
 OX (ldc S19 2 true x3) fun x20=>Post x20 S19)
theorem e94 (cf:CallF) (a0:D) (a1:D) (a2:D) (S:Store) (Post:D→Store→Prop):wp cf c94 (frame0 d94 [a0,a1,a2]) S (FinK d94.res Post)=s94 cf a0 a1 a2 S Post:=wpS_of (by kernel_rfl)
theorem f94 (a0:D) (a1:D) (a2:D) (S:Store) (Post:D→Store→Prop) (h:s94 (call dp) a0 a1 a2 S Post):∃ r S',call dp 94 [a0,a1,a2] S=some (r,S')∧Post r S':=call_s (f:=d94) rfl ⟨rfl,by decide⟩ (by rw [←e94] at h;exact h)
def s43 (cf:CallF) (a0:D) (a1:D) (S:Store) (Post:D→Store→Prop):Prop:=
 bxx 2 true a1 S fun x1 S2=>
 al [.sl 1 true [] .ro,.sl 1 true [] .ro] S2 fun x3 S4=>
 OX (nilckD a0) fun x5=>
 OX (faD 0 x5) fun x6=>
 OX (ldD S4 1 false x6) fun x7=>
 OX (binD .neq .num x7 (.i .i64 0)) fun x8=>
 WB x8
 (OX (bldV [.sl 1 true [] .ro,.sl 1 true [] .ro] []) fun x9=>
 OX (nilckD a0) fun x10=>
 OX (faD 0 x10) fun x11=>
 OX (ldD S4 1 false x11) fun x12=>
 OX (stD S4 2 true x3 (.agg x9)) fun S14=>
 OX (ldD S14 1 false x11) fun x15=>deq x15 x12=true ∧
 (OX (ldc S14 2 true x3) fun x16=>Post (.tup [x16,x12]) S14))
 (OX (ldD S4 2 true x1) fun x17=>
 OX (stD S4 2 true x3 x17) fun S19=>
 OX (ldc S19 2 true x3) fun x20=>Post (.tup [x20,(.i .i64 0)]) S19)
theorem e43 (cf:CallF) (a0:D) (a1:D) (S:Store) (Post:D→Store→Prop):wp cf c43 (frame0 d43 [a0,a1]) S (FinK d43.res Post)=s43 cf a0 a1 S Post:=wpS_of (by kernel_rfl)
theorem f43 (a0:D) (a1:D) (S:Store) (Post:D→Store→Prop) (h:s43 (call dp) a0 a1 S Post):∃ r S',call dp 43 [a0,a1] S=some (r,S')∧Post r S':=call_s (f:=d43) rfl ⟨rfl,by decide⟩ (by rw [←e43] at h;exact h)
def s9_r0 (cf:CallF) (a1:D) (a2:D) (a4:D) (a5:D) (a6:D) (a7:D) (a25:D) (a26:D) (a27:D) (a28:D) (S:Store) (Q:Ex→List D→Store→Prop):Prop:=
 OX (faD 2 a2) fun x1=>
 OX (ldD S 1 false x1) fun x2=>
 OX (iaD 2 a7 x2) fun x3=>
 OX (ldD S 2 true x3) fun x4=>
 OX (cf 43 [a6,x4] S) fun p6=>
 OX (extD p6.1 0) fun x7=>
 OX (extD p6.1 1) fun x8=>
 OX (stD p6.2 2 true a4 x7) fun S10=>
 Q .ret (mkf 68 [(1,.top),(2,.top),(4,a4),(5,x8),(6,.top),(7,.top),(25,.top),(26,.top),(27,.top),(28,.top)]) S10
theorem e9_r0 (cf:CallF) (a1:D) (a2:D) (a4:D) (a5:D) (a6:D) (a7:D) (a25:D) (a26:D) (a27:D) (a28:D) (S:Store) (Q:Ex→List D→Store→Prop):wp cf c9_r0 (mkf 68 [(1,a1),(2,a2),(4,a4),(5,a5),(6,a6),(7,a7),(25,a25),(26,a26),(27,a27),(28,a28)]) S Q=s9_r0 cf a1 a2 a4 a5 a6 a7 a25 a26 a27 a28 S Q:=wpS_of (by kernel_rfl)
def s9_0 (cf:CallF) (a1:D) (a2:D) (a4:D) (a5:D) (a6:D) (a7:D) (a25:D) (a26:D) (a27:D) (a28:D) (S:Store) (Q:Ex→List D→Store→Prop):Prop:=
 OX (binD .lss .num a27 a26) fun x11=>
 WB x11
 (OX (iaD 3 a25 a27) fun x12=>
 OX (ldD S 3 true x12) fun x13=>
 al [.i .i64 0,.i .i64 0,.i .i64 0] S fun x14 S15=>
 OX (stD S15 3 true x14 x13) fun S17=>
 OX (faD 0 a2) fun x18=>
 OX (ldD S17 1 false x18) fun x19=>
 OX (faD 0 x14) fun x20=>
 OX (ldD S17 1 false x20) fun x21=>
 OX (iaD 2 x19 x21) fun x22=>
 OX (ldD S17 2 true x22) fun x23=>
 OX (isoCall cf 17 [x23,a1]) fun x24=>
 al [.sl 1 true [] .ro,.sl 1 true [] .ro] S17 fun x25 S26=>
 OX (stD S26 2 true x25 x24) fun S28=>
 OX (ldD S28 2 true x25) fun x29=>
 OX (faD 1 x14) fun x30=>
 OX (ldD S28 1 false x30) fun x31=>
 OX (iaD 2 a7 x31) fun x32=>
 OX (ldD S28 2 true x32) fun x33=>
 OX (cf 41 [a6,x29] S28) fun p35=>
 OX (ldD p35.2 1 false x30) fun x36=>deq x36 x31=true ∧
 (OX (ldD p35.2 2 true x32) fun x37=>deq x37 x33=true ∧
 (OX (cf 40 [a6,p35.1,x33] p35.2) fun p39=>
 al [.sl 1 true [] .ro,.sl 1 true [] .ro] p39.2 fun x40 S41=>
 OX (stD S41 2 true x40 p39.1) fun S43=>
 OX (ldD S43 2 true x40) fun x44=>
 OX (ldD S43 2 true x25) fun x45=>
 OX (faD 2 x14) fun x46=>
 OX (ldD S43 1 false x46) fun x47=>
 OX (iaD 2 a7 x47) fun x48=>
 OX (ldD S43 2 true x48) fun x49=>
 OX (cf 40 [a6,x45,x49] S43) fun p51=>
 OX (ldD p51.2 2 true x40) fun x52=>deq x52 x44=true ∧
 (OX (cf 42 [a6,x44,p51.1] p51.2) fun p54=>
 OX (cellsV 2 true [p54.1]) fun x55=>
 OX (appD 2 false a7 (.sl 2 false x55 .ro) p54.2) fun p57=>
 OX (binD .add .num a27 (.i .i64 1)) fun x58=>
 Q .normal (mkf 68 [(1,a1),(2,a2),(4,a4),(5,a5),(6,a6),(7,p57.1),(25,a25),(26,a26),(27,x58),(28,.top)]) p57.2))))
 (Q (.exit 0) (mkf 68 [(1,a1),(2,a2),(4,a4),(5,a5),(6,a6),(7,a7),(25,a25),(26,a26),(27,a27),(28,x11)]) S)
theorem e9_0 (cf:CallF) (a1:D) (a2:D) (a4:D) (a5:D) (a6:D) (a7:D) (a25:D) (a26:D) (a27:D) (a28:D) (S:Store) (Q:Ex→List D→Store→Prop):wp cf c9_0 (fkill (mkf 68 [(1,a1),(2,a2),(4,a4),(5,a5),(6,a6),(7,a7),(25,a25),(26,a26),(27,a27),(28,a28)]) []) S Q=s9_0 cf a1 a2 a4 a5 a6 a7 a25 a26 a27 a28 S Q:=wpS_of (by kernel_rfl)
def s9 (cf:CallF) (a0:D) (a1:D) (S:Store) (Post:D→Store→Prop):Prop:=
 bxx 3 true a0 S fun x59 S60=>
 al [.sl 1 true [] .ro,.sl 1 true [] .ro] S60 fun x61 S62=>
 OX (ldD S62 3 true x59) fun x63=>
 OX (isoCall cf 38 [x63]) fun x64=>
 OX (unD .not x64) fun x65=>
 OX (gsel x65 false (some a1)) fun x66=>
 OX (gsel x65 false (isoCall cf 14 [x66])) fun x67=>
 OX (gsel x65 false (unD .not x67)) fun x68=>
 OX (pickD x65 (.b true) x68) fun x69=>
 WB x69
 (OX (bldV [.sl 1 true [] .ro,.sl 1 true [] .ro] []) fun x70=>
 OX (stD S62 2 true x61 (.agg x70)) fun S72=>
 OX (ldc S72 2 true x61) fun x73=>Post (.tup [x73,(.i .i64 1)]) S72)
 (al [.i .i64 0] S62 fun x74 S75=>
 OX (isoCall cf 39 []) fun x76=>
 OX (isoCall cf 28 []) fun x77=>
 OX (cellsV 2 true [x76,x77]) fun x78=>
 OX (faD 1 x59) fun x79=>
 OX (ldD (bslO 2 x78 S75).2 1 false x79) fun x80=>
 OX (lenD false x80) fun x81=>
 W cf (.loop [] c9_0) (mkf 68 [(1,a1),(2,x59),(4,x61),(5,.top),(6,x74),(7,(bslO 2 x78 S75).1),(25,x80),(26,x81),(27,(.i .i64 0)),(28,.top)]) (bslO 2 x78 S75).2 (Qblk 0 (QS cf c9_r0 (FinK [.cell 4 2 true,.t 5] Post))))
theorem e9 (cf:CallF) (a0:D) (a1:D) (S:Store) (Post:D→Store→Prop):wp cf c9 (frame0 d9 [a0,a1]) S (FinK d9.res Post)=s9 cf a0 a1 S Post:=wpS_of (by kernel_rfl)
theorem i9 (a0:D) (a1:D) (r:D) (ha:noRefL (stripL [a0,a1])=true) (hr:noRef r=true) (h:s9 (call dp) (strip a0) (strip a1) [] fun d _=>stripT d=r):isoCall (call dp) 9 [a0,a1]=some r:=iso_s (f:=d9) rfl ⟨rfl,by decide⟩ ha hr (by rw [←e9] at h;exact h)
theorem j9 (a0:D) (a1:D) (Post:D→Prop) (ha:noRefL (stripL [a0,a1])=true) (hr:∀ r,Post r→noRef r=true) (h:s9 (call dp) (strip a0) (strip a1) [] fun d _=>Post (stripT d)):∃ r,isoCall (call dp) 9 [a0,a1]=some r∧Post r:=iso_x (f:=d9) rfl ⟨rfl,by decide⟩ ha hr (by rw [←e9] at h;exact h)
def s10_r0 (cf:CallF) (a1:D) (a2:D) (a4:D) (a5:D) (a6:D) (a7:D) (a27:D) (S:Store) (Q:Ex→List D→Store→Prop):Prop:=
 OX (faD 2 a2) fun x1=>
 OX (ldD S 1 false x1) fun x2=>
 OX (iaD 2 a6 x2) fun x3=>
 OX (ldD S 2 true x3) fun x4=>
 OX (stD S 2 true a4 x4) fun S6=>
 Q .ret (mkf 70 [(1,.top),(2,.top),(4,a4),(5,(.i .i64 0)),(6,.top),(7,.top),(27,.top)]) S6
theorem e10_r0 (cf:CallF) (a1:D) (a2:D) (a4:D) (a5:D) (a6:D) (a7:D) (a27:D) (S:Store) (Q:Ex→List D→Store→Prop):wp cf c10_r0 (mkf 70 [(1,a1),(2,a2),(4,a4),(5,a5),(6,a6),(7,a7),(27,a27)]) S Q=s10_r0 cf a1 a2 a4 a5 a6 a7 a27 S Q:=wpS_of (by kernel_rfl)
def s10_0 (cf:CallF) (a1:D) (a2:D) (a4:D) (a5:D) (a6:D) (a7:D) (a27:D) (S:Store) (Q:Ex→List D→Store→Prop):Prop:=
 OX (faD 1 a2) fun x7=>
 OX (ldD S 1 false x7) fun x8=>
 OX (lenD false x8) fun x9=>
 OX (binD .lss .num a7 x9) fun x10=>
 WB x10
 (OX (faD 1 a2) fun x11=>
 OX (ldD S 1 false x11) fun x12=>
 OX (iaD 3 x12 a7) fun x13=>
 OX (ldD S 3 true x13) fun x14=>
 al [.i .i64 0,.i .i64 0,.i .i64 0] S fun x15 S16=>
 OX (stD S16 3 true x15 x14) fun S18=>
 OX (faD 0 a2) fun x19=>
 OX (ldD S18 1 false x19) fun x20=>
 OX (faD 0 x15) fun x21=>
 OX (ldD S18 1 false x21) fun x22=>
 OX (iaD 2 x20 x22) fun x23=>
 OX (ldD S18 2 true x23) fun x24=>
 OX (isoCall cf 18 [x24,a1]) fun x25=>
 OX (faD 1 x15) fun x26=>
 OX (ldD S18 1 false x26) fun x27=>
 OX (iaD 2 a6 x27) fun x28=>
 OX (ldD S18 2 true x28) fun x29=>
 OX (faD 2 x15) fun x30=>
 OX (ldD S18 1 false x30) fun x31=>
 OX (iaD 2 a6 x31) fun x32=>
 OX (ldD S18 2 true x32) fun x33=>
 OX (isoCall cf 47 [x25,x29,x33]) fun x34=>
 OX (extD x34 0) fun x35=>
 OX (extD x34 1) fun x36=>
 al [.sl 1 true [] .ro,.sl 1 true [] .ro] S18 fun x37 S38=>
 OX (ldD S38 1 false x19) fun x39=>deq x39 x20=true ∧
 (OX (ldD S38 1 false x21) fun x40=>deq x40 x22=true ∧
 (OX (ldD S38 2 true x23) fun x41=>deq x41 x24=true ∧
 (OX (ldD S38 1 false x26) fun x42=>deq x42 x27=true ∧
 (OX (ldD S38 2 true x28) fun x43=>deq x43 x29=true ∧
 (OX (ldD S38 1 false x30) fun x44=>deq x44 x31=true ∧
 (OX (ldD S38 2 true x32) fun x45=>deq x45 x33=true ∧
 (OX (stD S38 2 true x37 x35) fun S47=>
 OX (binD .neq .num x36 (.i .i64 0)) fun x48=>
 WB x48
 (OX (bldV [.sl 1 true [] .ro,.sl 1 true [] .ro] []) fun x49=>
 OX (stD S47 2 true a4 (.agg x49)) fun S51=>
 Q .ret (mkf 70 [(1,.top),(2,.top),(4,a4),(5,x36),(6,.top),(7,.top),(27,.top)]) S51)
 (OX (ldD S47 2 true x37) fun x52=>
 OX (cellsV 2 true [x52]) fun x53=>
 OX (appD 2 false a6 (.sl 2 false x53 .ro) S47) fun p55=>
 OX (binD .add .num a7 (.i .i64 1)) fun x56=>
 Q .normal (mkf 70 [(1,a1),(2,a2),(4,a4),(5,a5),(6,p55.1),(7,x56),(27,.top)]) p55.2)))))))))
 (Q (.exit 0) (mkf 70 [(1,a1),(2,a2),(4,a4),(5,a5),(6,a6),(7,a7),(27,x10)]) S)
theorem e10_0 (cf:CallF) (a1:D) (a2:D) (a4:D) (a5:D) (a6:D) (a7:D) (a27:D) (S:Store) (Q:Ex→List D→Store→Prop):wp cf c10_0 (fkill (mkf 70 [(1,a1),(2,a2),(4,a4),(5,a5),(6,a6),(7,a7),(27,a27)]) []) S Q=s10_0 cf a1 a2 a4 a5 a6 a7 a27 S Q:=wpS_of (by kernel_rfl)
def s10 (cf:CallF) (a0:D) (a1:D) (S:Store) (Post:D→Store→Prop):Prop:=
 bxx 3 true a0 S fun x57 S58=>
 al [.sl 1 true [] .ro,.sl 1 true [] .ro] S58 fun x59 S60=>
 OX (ldD S60 3 true x57) fun x61=>
 OX (isoCall cf 44 [x61]) fun x62=>
 OX (unD .not x62) fun x63=>
 OX (gsel x63 false (some a1)) fun x64=>
 OX (gsel x63 false (isoCall cf 15 [x64])) fun x65=>
 OX (gsel x63 false (unD .not x65)) fun x66=>
 OX (pickD x63 (.b true) x66) fun x67=>
 WB x67
 (OX (bldV [.sl 1 true [] .ro,.sl 1 true [] .ro] []) fun x68=>
 OX (stD S60 2 true x59 (.agg x68)) fun S70=>
 OX (ldc S70 2 true x59) fun x71=>Post (.tup [x71,(.i .i64 1)]) S70)
 (OX (isoCall cf 45 []) fun x72=>
 OX (isoCall cf 46 []) fun x73=>
 OX (cellsV 2 true [x72,x73]) fun x74=>
 W cf (.loop [] c10_0) (mkf 70 [(1,a1),(2,x57),(4,x59),(5,.top),(6,(bslO 2 x74 S60).1),(7,(.i .i64 0)),(27,.top)]) (bslO 2 x74 S60).2 (Qblk 0 (QS cf c10_r0 (FinK [.cell 4 2 true,.t 5] Post))))
theorem e10 (cf:CallF) (a0:D) (a1:D) (S:Store) (Post:D→Store→Prop):wp cf c10 (frame0 d10 [a0,a1]) S (FinK d10.res Post)=s10 cf a0 a1 S Post:=wpS_of (by kernel_rfl)
theorem i10 (a0:D) (a1:D) (r:D) (ha:noRefL (stripL [a0,a1])=true) (hr:noRef r=true) (h:s10 (call dp) (strip a0) (strip a1) [] fun d _=>stripT d=r):isoCall (call dp) 10 [a0,a1]=some r:=iso_s (f:=d10) rfl ⟨rfl,by decide⟩ ha hr (by rw [←e10] at h;exact h)
theorem j10 (a0:D) (a1:D) (Post:D→Prop) (ha:noRefL (stripL [a0,a1])=true) (hr:∀ r,Post r→noRef r=true) (h:s10 (call dp) (strip a0) (strip a1) [] fun d _=>Post (stripT d)):∃ r,isoCall (call dp) 10 [a0,a1]=some r∧Post r:=iso_x (f:=d10) rfl ⟨rfl,by decide⟩ ha hr (by rw [←e10] at h;exact h)
def s47 (cf:CallF) (a0:D) (a1:D) (a2:D) (S:Store) (Post:D→Store→Prop):Prop:=
 bxx 2 true a0 S fun x1 S2=>
 bxx 2 true a1 S2 fun x3 S4=>
 bxx 2 true a2 S4 fun x5 S6=>
 al [.sl 1 true [] .ro,.sl 1 true [] .ro] S6 fun x7 S8=>
 OX (ldD S8 2 true x1) fun x9=>
 OX (isoCall cf 50 [x9]) fun x10=>
 OX (extD x10 0) fun x11=>
 OX (extD x10 1) fun x12=>
 al [.sl 1 true [] .ro,.sl 1 true [] .ro] S8 fun x13 S14=>
 OX (stD S14 2 true x13 x11) fun S16=>
 OX (binD .neq .num x12 (.i .i64 0)) fun x17=>
 WB x17
 (OX (bldV [.sl 1 true [] .ro,.sl 1 true [] .ro] []) fun x18=>
 OX (stD S16 2 true x7 (.agg x18)) fun S20=>
 OX (ldc S20 2 true x7) fun x21=>Post (.tup [x21,x12]) S20)
 (OX (ldD S16 2 true x13) fun x22=>
 OX (ldD S16 2 true x3) fun x23=>
 OX (isoCall cf 51 [x22,x23]) fun x24=>
 OX (extD x24 0) fun x25=>
 OX (extD x24 1) fun x26=>
 al [.sl 1 true [] .ro,.sl 1 true [] .ro] S16 fun x27 S28=>
 OX (stD S28 2 true x27 x25) fun S30=>
 OX (binD .neq .num x26 (.i .i64 0)) fun x31=>
 WB x31
 (OX (bldV [.sl 1 true [] .ro,.sl 1 true [] .ro] []) fun x32=>
 OX (stD S30 2 true x7 (.agg x32)) fun S34=>
 OX (ldc S34 2 true x7) fun x35=>Post (.tup [x35,x26]) S34)
 (OX (ldD S30 2 true x1) fun x36=>
 OX (ldD S30 2 true x5) fun x37=>
 OX (isoCall cf 51 [x36,x37]) fun x38=>
 OX (extD x38 0) fun x39=>
 OX (extD x38 1) fun x40=>
 al [.sl 1 true [] .ro,.sl 1 true [] .ro] S30 fun x41 S42=>
 OX (stD S42 2 true x41 x39) fun S44=>
 OX (binD .neq .num x40 (.i .i64 0)) fun x45=>
 WB x45
 (OX (bldV [.sl 1 true [] .ro,.sl 1 true [] .ro] []) fun x46=>
 OX (stD S44 2 true x7 (.agg x46)) fun S48=>
 OX (ldc S48 2 true x7) fun x49=>Post (.tup [x49,x40]) S48)
 (OX (ldD S44 2 true x27) fun x50=>
 OX (ldD S44 2 true x41) fun x51=>
 OX (isoCall cf 99 [x50,x51]) fun x52=>
 OX (extD x52 0) fun x53=>
 OX (extD x52 1) fun x54=>
 OX (stD S44 2 true x7 x53) fun S56=>
 OX (ldc S56 2 true x7) fun x57=>Post (.tup [x57,x54]) S56)))
theorem e47 (cf:CallF) (a0:D) (a1:D) (a2:D) (S:Store) (Post:D→Store→Prop):wp cf c47 (frame0 d47 [a0,a1,a2]) S (FinK d47.res Post)=s47 cf a0 a1 a2 S Post:=wpS_of (by kernel_rfl)
theorem j47 (a0:D) (a1:D) (a2:D) (Post:D→Prop) (ha:noRefL (stripL [a0,a1,a2])=true) (hr:∀ r,Post r→noRef r=true) (h:s47 (call dp) (strip a0) (strip a1) (strip a2) [] fun d _=>Post (stripT d)):∃ r,isoCall (call dp) 47 [a0,a1,a2]=some r∧Post r:=iso_x (f:=d47) rfl ⟨rfl,by decide⟩ ha hr (by rw [←e47] at h;exact h)
def s4 (cf:CallF) (a0:D) (a1:D) (a2:D) (S:Store) (Post:D→Store→Prop):Prop:=
 bxx 2 true a1 S fun x1 S2=>
 OX (isoCall cf 7 [a0]) fun x3=>
 OX (unD .not x3) fun x4=>
 OX (gsel x4 false (some a2)) fun x5=>
 OX (gsel x4 false (lenD false x5)) fun x6=>
 OX (gsel x4 false (binD .gtr .num x6 (.i .i64 12))) fun x7=>
 OX (pickD x4 (.b true) x7) fun x8=>
 WB x8
 (OX (isoCall cf 8 []) fun x9=>
 Post x9 S2)
 (OX (isoCall cf 12 [a2,a0]) fun x10=>
 OX (extD x10 0) fun x11=>
 OX (extD x10 1) fun x12=>
 al [.sl 1 true [] .ro,.sl 1 true [] .ro] S2 fun x13 S14=>
 OX (stD S14 2 true x13 x11) fun S16=>
 OX (isoCall cf 13 [a2,a0]) fun x17=>
 OX (extD x17 0) fun x18=>
 OX (extD x17 1) fun x19=>
 al [.sl 1 true [] .ro,.sl 1 true [] .ro] S16 fun x20 S21=>
 OX (stD S21 2 true x20 x18) fun S23=>
 OX (isoCall cf 14 [a0]) fun x24=>
 OX (isoCall cf 15 [a0]) fun x25=>
 OX (binD .eql .bool x24 x25) fun x26=>
 OX (gsel x26 true (ldD S23 2 true x1)) fun x27=>
 OX (gsel x26 true (some a0)) fun x28=>
 OX (gsel x26 true (isoCall cf 17 [x27,x28])) fun x29=>
 OX (gsel x26 true (ldD S23 2 true x1)) fun x30=>
 OX (gsel x26 true (some a0)) fun x31=>
 OX (gsel x26 true (isoCall cf 18 [x30,x31])) fun x32=>
 OX (gsel x26 true (isoCall cf 16 [x29,x32])) fun x33=>
 OX (pickD x26 x33 (.b false)) fun x34=>
 OX (gsel x34 true (ldD S23 2 true x13)) fun x35=>
 OX (gsel x34 true (some x12)) fun x36=>
 OX (gsel x34 true (ldD S23 2 true x20)) fun x37=>
 OX (gsel x34 true (some x19)) fun x38=>
 OX (gsel x34 true (isoCall cf 11 [x35,x36,x37,x38])) fun x39=>
 OX (pickD x34 x39 (.b false)) fun x40=>
 OX (gsel x40 true (isoCall cf 8 [])) fun x41=>
 OX (pickD x40 x41 (.b false)) fun x42=>
 Post x42 S23)
theorem e4 (cf:CallF) (a0:D) (a1:D) (a2:D) (S:Store) (Post:D→Store→Prop):wp cf c4 (frame0 d4 [a0,a1,a2]) S (FinK d4.res Post)=s4 cf a0 a1 a2 S Post:=wpS_of (by kernel_rfl)
theorem i4 (a0:D) (a1:D) (a2:D) (r:D) (ha:noRefL (stripL [a0,a1,a2])=true) (hr:noRef r=true) (h:s4 (call dp) (strip a0) (strip a1) (strip a2) [] fun d _=>stripT d=r):isoCall (call dp) 4 [a0,a1,a2]=some r:=iso_s (f:=d4) rfl ⟨rfl,by decide⟩ ha hr (by rw [←e4] at h;exact h)
theorem j4 (a0:D) (a1:D) (a2:D) (Post:D→Prop) (ha:noRefL (stripL [a0,a1,a2])=true) (hr:∀ r,Post r→noRef r=true) (h:s4 (call dp) (strip a0) (strip a1) (strip a2) [] fun d _=>Post (stripT d)):∃ r,isoCall (call dp) 4 [a0,a1,a2]=some r∧Post r:=iso_x (f:=d4) rfl ⟨rfl,by decide⟩ ha hr (by rw [←e4] at h;exact h)
theorem f4 (a0:D) (a1:D) (a2:D) (S:Store) (Post:D→Store→Prop) (h:s4 (call dp) a0 a1 a2 S Post):∃ r S',call dp 4 [a0,a1,a2] S=some (r,S')∧Post r S':=call_s (f:=d4) rfl ⟨rfl,by decide⟩ (by rw [←e4] at h;exact h)
def s3 (cf:CallF) (a0:D) (a1:D) (S:Store) (Post:D→Store→Prop):Prop:=
 bxx 3 true a0 S fun x1 S2=>
 OX (isoCall cf 7 [a1]) fun x3=>
 OX (unD .not x3) fun x4=>
 OX (gsel x4 false (faD 0 x1)) fun x5=>
 OX (gsel x4 false (ldD S2 1 false x5)) fun x6=>
 OX (gsel x4 false (lenD false x6)) fun x7=>
 OX (gsel x4 false (binD .gtr .num x7 (.i .i64 8))) fun x8=>
 OX (pickD x4 (.b true) x8) fun x9=>
 OX (gsel x9 false (faD 1 x1)) fun x10=>
 OX (gsel x9 false (ldD S2 1 false x10)) fun x11=>
 OX (gsel x9 false (lenD false x11)) fun x12=>
 OX (gsel x9 false (binD .gtr .num x12 (.i .i64 20))) fun x13=>
 OX (pickD x9 (.b true) x13) fun x14=>
 WB x14
 (OX (isoCall cf 8 []) fun x15=>
 Post x15 S2)
 (OX (ldD S2 3 true x1) fun x16=>
 OX (isoCall cf 9 [x16,a1]) fun x17=>
 OX (extD x17 0) fun x18=>
 OX (extD x17 1) fun x19=>
 al [.sl 1 true [] .ro,.sl 1 true [] .ro] S2 fun x20 S21=>
 OX (stD S21 2 true x20 x18) fun S23=>
 OX (ldD S23 3 true x1) fun x24=>
 OX (isoCall cf 10 [x24,a1]) fun x25=>
 OX (extD x25 0) fun x26=>
 OX (extD x25 1) fun x27=>
 al [.sl 1 true [] .ro,.sl 1 true [] .ro] S23 fun x28 S29=>
 OX (stD S29 2 true x28 x26) fun S31=>
 OX (ldD S31 2 true x20) fun x32=>
 OX (ldD S31 2 true x28) fun x33=>
 OX (isoCall cf 11 [x32,x19,x33,x27]) fun x34=>
 OX (gsel x34 true (isoCall cf 8 [])) fun x35=>
 OX (pickD x34 x35 (.b false)) fun x36=>
 Post x36 S31)
theorem e3 (cf:CallF) (a0:D) (a1:D) (S:Store) (Post:D→Store→Prop):wp cf c3 (frame0 d3 [a0,a1]) S (FinK d3.res Post)=s3 cf a0 a1 S Post:=wpS_of (by kernel_rfl)
theorem i3 (a0:D) (a1:D) (r:D) (ha:noRefL (stripL [a0,a1])=true) (hr:noRef r=true) (h:s3 (call dp) (strip a0) (strip a1) [] fun d _=>stripT d=r):isoCall (call dp) 3 [a0,a1]=some r:=iso_s (f:=d3) rfl ⟨rfl,by decide⟩ ha hr (by rw [←e3] at h;exact h)
theorem j3 (a0:D) (a1:D) (Post:D→Prop) (ha:noRefL (stripL [a0,a1])=true) (hr:∀ r,Post r→noRef r=true) (h:s3 (call dp) (strip a0) (strip a1) [] fun d _=>Post (stripT d)):∃ r,isoCall (call dp) 3 [a0,a1]=some r∧Post r:=iso_x (f:=d3) rfl ⟨rfl,by decide⟩ ha hr (by rw [←e3] at h;exact h)
theorem f3 (a0:D) (a1:D) (S:Store) (Post:D→Store→Prop) (h:s3 (call dp) a0 a1 S Post):∃ r S',call dp 3 [a0,a1] S=some (r,S')∧Post r S':=call_s (f:=d3) rfl ⟨rfl,by decide⟩ (by rw [←e3] at h;exact h)
end Go.Proofs.YtjniafcnjbbomaaGreatDoor.DE

namespace Go.Proofs.YtjniafcnjbbomaaGreatDoor.DE.V
open Go NL
abbrev Ch:=Row × (Bool × List Nat) × (Bool × List Nat)
def eCh (c:Ch):List D:=[.i .i64 c.1.1,.i .i64 c.1.2,eLims c.2.1.1 c.2.1.2 .ro,eLims c.2.2.1 c.2.2.2 .ro]
def eChs (nl:Bool) (l:List Ch):D:=.sl 4 nl (l.map eCh) .ro
abbrev Ch.num (c:Ch):List Nat:=c.2.1.2
abbrev Ch.den (c:Ch):List Nat:=c.2.2.2
def eCq (c:Ch):D:=eQ c.2.1.1 c.2.2.1 c.2.1.2 c.2.2.2
structure OkC (c:Ch):Prop where
 l1:Lim c.num
 l2:Lim c.den
 f1:NF c.2.1.1 c.num
 f2:NF c.2.2.1 c.den
 b1:Bd c.num.length
 b2:Bd c.den.length
def OkL (l:List Ch):Prop:=∀ c,c∈l→OkC c
theorem noRefLL_chs:∀ l:List Ch,noRefLL (l.map eCh)=true
 | []=>rfl
 | c::l=>by simp [noRefLL,eCh,noRefL,noRefLL_chs l]
@[simp] theorem noRef_chs (nl:Bool) (l:List Ch):noRef (eChs nl l)=true:=by simp [eChs,noRef,noRefLL_chs]
@[simp] theorem strip_chs (nl:Bool) (l:List Ch):strip (eChs nl l)=eChs nl l:=(rfl)
@[simp] theorem len_chs (nl:Bool) (l:List Ch):lenD false (eChs nl l)=some (.i .i64 l.length):=by simp [eChs,lenD]
theorem ia_chs {nl:Bool} {l:List Ch} {k:IntKind} {i:Nat} {c:Ch} (h:l[i]? = some c):iaD 4 (eChs nl l) (.i k i)=some (.el (eCh c) 0):=by simp [eChs,iaD,h]
theorem ld_ch (S:Store) (c:Ch):ldD S 4 true (.el (eCh c) 0)=some (.agg (eCh c)):=(rfl)
theorem ld_ch0 (S:Store) (c:Ch):ldD S 2 true (.el (eCh c) 0)=some (.agg (eRow c.1)):=(rfl)
theorem ld_ch2 (S:Store) (c:Ch):ldD S 2 true (.el (eCh c) 2)=some (eCq c):=(rfl)
theorem fa_el (cs:List D) (o p:Nat):faD o (.el cs p)=some (.el cs (p+o)):=rfl
theorem fa_bx (id o p:Nat):faD o (.bx id p)=some (.bx id (p+o)):=rfl
theorem st_ch (S:Store) (c:Ch) (x y u v:D):stD (Ent.box [x,y,u,v]::S) 4 true (.bx S.length 0) (.agg (eCh c))=some (.box (eCh c)::S):=by
 rw [stD_bx,sget_top,stE_box']
 have:cellsK 4 true (.agg (eCh c))=some (eCh c):=rfl
 rw [this]
 simp [eCh]
theorem bx_ch0 (S:Store) (c:Ch):ldD (Ent.box (eCh c)::S) 2 true (.bx S.length 0)=some (.agg (eRow c.1)):=by
 rw [ldD_bx,sget_top];rfl
theorem bx_ch2 (S:Store) (c:Ch):ldD (Ent.box (eCh c)::S) 2 true (.bx S.length 2)=some (eCq c):=by
 rw [ldD_bx,sget_top];rfl
def VC (c:Ch):Prop:=((1≤c.1.1∧1≤c.1.2)∧VR c.num c.den)∧(VR c.num c.den∧val c.num≤val c.den)
def VL (l:List Ch):Prop:=∀ i c,l[i]? = some c→VC c∧∀ c',c'∈l.take i→c'.1≠c.1
theorem v52 (r:Row):isoCall (call dp) 52 [.agg (eRow r)]=some (.b (decide (1≤r.1∧1≤r.2))):=by
 apply i52 _ _ (by simp [noRefL]) rfl
 by_cases h1:1≤r.1
 ·simp [s52,h1]
 ·simp [s52,h1]
theorem v54 (r:Row):isoCall (call dp) 54 [.agg (eRow r)]=some (.b (decide (1≤r.1∧1≤r.2))):=by
 apply i54 _ _ (by simp [noRefL]) rfl
 by_cases h1:1≤r.1
 ·simp [s54,h1]
 ·simp [s54,h1]
def chKey (l:List Ch):List (Row × Unit):=l.map fun c=>(c.1,())
def chMap (l:List Ch):Ent:=.map (eMap (fun r:Row=>.agg (eRow r)) (fun _:Unit=>.b true) (chKey l))
theorem chKey_snoc (l:List Ch) (c:Ch):chKey l++[(c.1,())]=chKey (l++[c]):=by simp [chKey]
theorem assoc_key (l:List Ch) (r:Row):assoc r (chKey l)=none↔∀ c,c∈l→c.1≠r:=by
 rw [assoc_none]
 simp only [chKey,List.mem_map]
 constructor
 ·intro h c hc
  exact h (c.1,()) ⟨c,hc,rfl⟩
 ·rintro h p ⟨c,hc,rfl⟩
  exact h c hc
theorem chKey_snoc_ent (l:List Ch) (c:Ch):Ent.map (eMap (fun r:Row=>.agg (eRow r)) (fun _:Unit=>.b true) (chKey l++[(c.1,())]))=chMap (l++[c]):=by rw [chKey_snoc];rfl
def J14 (nl:Bool) (l:List Ch):Nat→List D→Store→Prop:=fun q fr S=>∃ i a2 a10,q=l.length-i∧i≤l.length∧(∀ j c,j<i→l[j]? = some c→VC c∧∀ c',c'∈l.take j→c'.1≠c.1)∧sget S 0=some (chMap (l.take i)) ∧
 fr=mkf 39 [(2,a2),(3,.mp 0),(7,eChs nl l),(8,.i .i64 l.length),(9,.i .i64 i),(10,a10)]
open Classical in
theorem v14 (nl:Bool) (l:List Ch) (hok:OkL l) (hb:Bd l.length):isoCall (call dp) 14 [eChs nl l]=some (.b (decide (VL l))):=by
 apply i14 _ _ (by simp [noRefL]) rfl
 simp only [s14,strip_chs,mm_eq,len_chs,OX_some,List.length_nil]
 generalize hR:QS (call dp) c14_r0 _=R
 refine W_loop (J14 nl l) ?_ l.length _ _ ⟨0,.top,.top,by omega,by omega,fun j c hj=>by omega,rfl,rfl⟩
 rintro q fr S ⟨i,a2,a10,rfl,hi,hv,hS,rfl⟩
 rw [←wp_W,e14_0]
 by_cases hlt:i<l.length
 ·obtain ⟨c,hc⟩:∃ c,l[i]? = some c:=⟨l[i],List.getElem?_eq_getElem hlt⟩
  have ok:=hok c (List.mem_of_getElem? hc)
  have u52:=v52 c.1
  have u53:isoCall (call dp) 53 [eCq c]=some (.b (decide (VR c.num c.den))):=v53 _ _ _ _ ok.l1 ok.l2 ok.f1 ok.f2 ok.b1 ok.b2
  have u30:isoCall (call dp) 30 [eCq c]=some (.b (decide (VR c.num c.den∧val c.num≤val c.den))):=v30 _ _ _ _ ok.l1 ok.l2 ok.f1 ok.f2 ok.b1 ok.b2
  have hS':sget (Ent.box (eCh c)::S) 0=some (.map (eMap (fun r:Row=>.agg (eRow r)) (fun _:Unit=>.b true) (chKey (l.take i)))):=sget_push hS
  have lk:=lkD'_mp (ek:=fun r:Row=>.agg (eRow r)) (ev:=fun _:Unit=>.b true) keyE_row (a:=c.1) (isKey_row c.1) hS' false (.b false)
  simp only [s14_0,lss_nat,hlt,decide_true,OX_tt,WB_true,ia_chs hc,ld_ch,OX_some,al_eq,st_ch,fa_bx,Nat.zero_add,bx_ch0,bx_ch2]
  rw [u52]
  have bad:¬VL l→∀ S',Qseq (fun fr' S'=>∃ m',m'<l.length-i∧J14 nl l m' fr' S') (Qblk 0 R) .ret (mkf 39 [(2,(.b false)),(3,.top),(7,.top),(8,.top),(9,.top),(10,.top)]) S':=by
   intro hn S'
   rw [Qseq_ret,Qblk_ret,←hR,QS_ret,FinK_ret1,decide_eq_false hn]
   rfl
  by_cases h1:1≤c.1.1∧1≤c.1.2
  ·by_cases h2:VR c.num c.den
   ·by_cases h3:VR c.num c.den∧val c.num≤val c.den
    ·by_cases h4:∀ c',c'∈l.take i→c'.1≠c.1
     ·have ha:=(assoc_key (l.take i) c.1).2 h4
      rw [ha] at lk
      have hmu:=muD'_new (ek:=fun r:Row=>.agg (eRow r)) (ev:=fun _:Unit=>.b true) keyE_row (a:=c.1) (b:=()) (isKey_row c.1) hS' ha
      simp only [h1,h2,h3,u53,u30,and_self,decide_true,OX_some,un_not,Bool.not_true,gsel_ff,pick_f,bx_ch0,bx_ch2,lk,okD_fn,Option.map_none,WB_false,bx_ch0,hmu,inc_nat (show Bd i by unfold Bd at *;omega),Qseq_normal]
      refine ⟨l.length-(i+1),by omega,i+1,a2,.top,rfl,by omega,?_,?_,rfl⟩
      ·intro j c' hj hc'
       by_cases e:j=i
       ·subst e
        rw [hc] at hc'
        injection hc' with hc'
        subst hc'
        exact ⟨⟨⟨h1,h2⟩,h3⟩,h4⟩
       ·exact hv j c' (by omega) hc'
      ·rw [sget_sset _ (by simp),take_snoc hc,←chKey_snoc_ent]
     ·obtain ⟨b,hb'⟩:∃ b,assoc c.1 (chKey (l.take i))=some b:=by
       cases ha:assoc c.1 (chKey (l.take i)) with
       | none=>exact absurd ((assoc_key _ _).1 ha) h4
       | some b=>exact ⟨b,rfl⟩
      rw [hb'] at lk
      simp only [h1,h2,h3,u53,u30,and_self,decide_true,OX_some,un_not,Bool.not_true,gsel_ff,pick_f,bx_ch0,bx_ch2,lk,okD_fs,Option.map_some,WB_true]
      exact bad (fun h=>h4 (h i c hc).2) _
    ·rw [decide_eq_false h3] at u30
     simp only [h1,h2,u53,u30,and_self,decide_true,OX_some,un_not,Bool.not_true,Bool.not_false,bx_ch0,bx_ch2,gsel_ff,gsel_tf,pick_f,pick_t,WB_true]
     exact bad (fun h=>h3 (h i c hc).1.2) _
   ·simp only [h1,h2,u53,and_self,decide_true,decide_false,OX_some,un_not,Bool.not_true,Bool.not_false,bx_ch0,bx_ch2,gsel_ff,gsel_tf,pick_f,pick_t,WB_true]
    exact bad (fun h=>h2 (h i c hc).1.1.2) _
  ·simp only [h1,decide_false,OX_some,un_not,Bool.not_false,gsel_tf,pick_t,WB_true]
   exact bad (fun h=>h1 (h i c hc).1.1.1) _
 ·have:i=l.length:=by omega
  subst this
  have hvl:VL l:=fun j c hj=>hv j c (by
   rcases Nat.lt_or_ge j l.length with q | q
   ·exact q
   ·rw [List.getElem?_eq_none q] at hj;cases hj) hj
  simp only [s14_0,lss_nat,hlt,decide_false,OX_ff,WB_false,Qseq_exit,Qblk_same]
  rw [←hR]
  simp only [QS_normal,e14_r0,s14_r0]
  rw [FinK_ret1,decide_eq_true hvl]
  rfl
end Go.Proofs.YtjniafcnjbbomaaGreatDoor.DE.V

namespace Go.Proofs.YtjniafcnjbbomaaGreatDoor.DE.V
open Go Go.ChangeShapes Go.WideShapes Go.RowKit
set_option maxRecDepth 100000
set_option linter.unusedVariables false
set_option linter.unusedSimpArgs false
def there (w:World):Fix:=fun b o=>∃ v,w.cell? ⟨b,o,none⟩=some v
theorem sim0 {dp:Nat→Option Fn} (w:World):Sim dp (there w) [] w []:=
 ⟨rfl,fun _ _ h=>h,fun _ _ _ h=>by (cases h),fun _ _ _ _ _ _ _ h=>by (cases h)⟩
section
variable {H:Type} {enc:TypeId × Value→H} {w:World} {base:Nat} {spare:Nat→Bool} {held:Bool} {fuel:Nat} {cs:List Value} {x:DataW H × List MemPlace}
theorem wf64 {n:Int} (h:(Lit.int .i64 n).wf=true):in64 n:=by
 simp only [Lit.wf,Bool.and_eq_true,decide_eq_true_eq] at h
 exact h
theorem rd_int (h:DataW.trod enc Tryz.prog w base spare held fuel 3 cs=some x):∃ n,cs=[.int .i64 n]∧in64 n:=by
 obtain ⟨n,h1,_,h2⟩:=DataW.trod_int Tryz.underlying3 h
 exact ⟨n,h1,wf64 h2⟩
end
theorem list_of {α:Type} {p:Nat→α→Prop}:∀ n,(∀ i,i<n→∃ x,p i x)→∃ l:List α,l.length=n∧∀ i x,l[i]? = some x→p i x
 | 0,_=>⟨[],rfl,fun _ _ h=>by simp at h⟩
 | n+1,h=>by
  obtain ⟨l,h1,h2⟩:=list_of n fun i hi=>h i (by omega)
  obtain ⟨x,hx⟩:=h n (by omega)
  refine ⟨l++[x],by simp [h1],fun i y hy=>?_⟩
  rw [List.getElem?_append] at hy
  split at hy
  ·exact h2 i y hy
  ·rename_i hlt
   have:i=l.length:=by
    have:=(List.getElem?_eq_some_iff.1 hy).1
    simp at this;omega
   subst this
   simp at hy;subst hy;rw [h1];exact hx
def RelL (dp:Nat→Option Fn) (w:World) (cs:List Value) (ds:List D):Prop:=cs.length=ds.length∧∀ (m:Nat) (v:Value) (d:D),cs[m]? = some v→ds[m]? = some d→v.oneCell'=true∧Rel dp (there w) [] w v d
section
variable {dp:Nat→Option Fn} {w:World}
theorem RelL.nil:RelL dp w [] []:=⟨rfl,fun _ _ _ h=>by simp at h⟩
theorem RelL.cons {v:Value} {d:D} {cs:List Value} {ds:List D} (h1:v.oneCell'=true) (h2:Rel dp (there w) [] w v d) (h:RelL dp w cs ds):RelL dp w (v::cs) (d::ds):=
 ⟨by simp [h.1],fun m u e hu he=>by
  match m with
  | 0=>simp at hu he;subst hu he;exact ⟨h1,h2⟩
  | m+1=>exact h.2 m u e (by simpa using hu) (by simpa using he)⟩
theorem RelL.app {cs cs':List Value} {ds ds':List D} (h:RelL dp w cs ds) (h':RelL dp w cs' ds'):RelL dp w (cs++cs') (ds++ds'):=by
 refine ⟨by simp [h.1,h'.1],fun m u e hu he=>?_⟩
 rw [List.getElem?_append] at hu he
 rw [h.1] at hu
 split at hu
 ·rename_i hlt
  rw [if_pos hlt] at he
  exact h.2 m u e hu he
 ·rename_i hlt
  rw [if_neg hlt] at he
  exact h'.2 _ u e hu he
variable {H:Type} {enc:TypeId × Value→H} {base:Nat} {spare:Nat→Bool} {held:Bool} {fuel:Nat} {cs:List Value} {x:DataW H × List MemPlace}
theorem rd_sliceG {t e k:Nat} {α:Type} (en:α→List D) (P:α→Prop) (ht:Tryz.prog.underlying t=some (.slice e)) (hk:Tryz.prog.cellsOf e=k) (hk0:0<k) (hen:∀ a,(en a).length=k)
  (helem:∀ (n:Nat) (cs:List Value) (x:DataW H × List MemPlace),n<fuel→DataW.trod enc Tryz.prog w base spare held n e cs=some x→∃ a,P a∧RelL dp w cs (en a))
  (h:DataW.trod enc Tryz.prog w base spare held fuel t cs=some x) :
  ∃ nl l v,(nl=true→l=[])∧(∀ a∈l,P a)∧l.length≤maxLen∧cs=[v]∧v.oneCell'=true∧Rel dp (there w) [] w v (.sl k nl (l.map en) .ro):=by
 rcases DataW.trod_slice ht h with ⟨rfl,_⟩ | ⟨a,len,cap,elems,rest,n,rfl,rfl,_,hb,hl,hm,hel,hx,_,_⟩
 ·exact ⟨true,[],_,fun _=>rfl,fun _ h=>by (cases h),Nat.zero_le _,rfl,rfl,.nil k .ro⟩
 ·obtain ⟨l,hll,hl2⟩:=list_of (α:=List Value × α) (p:=fun i y=>w.cells? base (a.add (i * k)) k=some y.1∧P y.2∧RelL dp w y.1 (en y.2)) len (fun i hi=>by
   have h1:=hx i hi
   rw [hk] at h1
   obtain ⟨y,hy⟩:∃ y,elems[i]? = some y:=⟨_,List.getElem?_eq_getElem (by omega)⟩
   rw [hy] at h1
   cases hc:w.cells? base (a.add (i * k)) k with
   | none=>rw [hc] at h1;cases h1
   | some cs'=>
    rw [hc] at h1
    obtain ⟨z,p1,p2⟩:=helem n cs' y (Nat.lt_succ_self n) h1
    exact ⟨(cs',z),rfl,p1,p2⟩)
  refine ⟨false,l.map (·.2),_,fun h=>by (cases h),?_,by simp;omega,rfl,rfl,?_⟩
  ·intro y hy
   obtain ⟨z,hz,rfl⟩:=List.mem_map.1 hy
   obtain ⟨i,hi⟩:=List.mem_iff_getElem?.1 hz
   exact (hl2 i z hi).2.1
  ·rcases Nat.eq_zero_or_pos len with h0 | h0
   ·subst h0
    have:l=[]:=List.length_eq_zero_iff.1 hll
    subst this
    exact .emp k a cap
   ·obtain ⟨blk,off,spot⟩:=a
    have hspot:spot=none:=by
     obtain ⟨z,hz⟩:∃ z,l[0]? = some z:=⟨_,List.getElem?_eq_getElem (by omega)⟩
     obtain ⟨h1,_⟩:=hl2 0 z hz
     obtain ⟨_,hlen,h3⟩:=World.cells?_some h1
     have:=h3 0 hk0
     have hz0:z.1[0]? ≠ none:=by
      intro hn
      rw [List.getElem?_eq_none_iff] at hn
      omega
     simp only [Nat.zero_mul,Addr.add,if_true] at this
     cases spot with
     | none=>rfl
     | some b=>
      exfalso
      apply hz0
      rw [←this]
      unfold World.cell?
      split <;> simp_all
    subst hspot
    have hadd:∀ i j,((Addr.mk blk off none).add i).add j=⟨blk,off+i+j,none⟩:=by
     intro i j
     unfold Addr.add
     by_cases hi:i=0 <;> by_cases hj:j=0 <;> simp [hi,hj,Nat.add_assoc]
    have hcell:∀ i z,l[i]? = some z→∀ j,j<k→w.cell? ⟨blk,off+i * k+j,none⟩=z.1[j]?:=by
     intro i z hz j hj
     obtain ⟨h1,_⟩:=hl2 i z hz
     obtain ⟨_,_,h3⟩:=World.cells?_some h1
     have:=h3 j hj
     rwa [hadd] at this
    have hget:∀ (j:Nat) (y:List D),((l.map (·.2)).map en)[j]? = some y→∃ z,l[j]? = some z∧y=en z.2:=by
     intro j y hj
     rw [List.getElem?_map,List.getElem?_map] at hj
     cases hz:l[j]? with
     | none=>rw [hz] at hj;simp at hj
     | some z=>rw [hz] at hj;simp at hj;exact ⟨z,rfl,hj.symm⟩
    have key:=Rel.sl (dp:=dp) (F:=there w) (G:=[]) (w:=w) k ((l.map (·.2)).map en) .ro blk off cap (fun j m=>((l[j]?).bind fun z=>z.1[m]?).getD .nilIface)
     (by
      intro y hy
      obtain ⟨z,_,rfl⟩:=List.mem_map.1 hy
      exact hen _) (by simp;omega)
     (by
      intro j y m d hj hd
      obtain ⟨z,hz,rfl⟩:=hget j y hj
      have hmk:m<k:=by
       have:=(List.getElem?_eq_some_iff.1 hd).1
       rwa [hen] at this
      obtain ⟨_,_,hr⟩:=hl2 j z hz
      obtain ⟨v,hv⟩:∃ v,z.1[m]? = some v:=⟨_,List.getElem?_eq_getElem (by rw [hr.1,hen];exact hmk)⟩
      have hc:=hcell j z hz m hmk
      rw [hv] at hc
      simp only [hz,Option.bind_some,hv,Option.getD_some]
      exact ⟨⟨v,hc⟩,hc,(hr.2 m v d hv hd).1⟩)
     (by
      intro j y m d hj hd
      obtain ⟨z,hz,rfl⟩:=hget j y hj
      have hmk:m<k:=by
       have:=(List.getElem?_eq_some_iff.1 hd).1
       rwa [hen] at this
      obtain ⟨_,_,hr⟩:=hl2 j z hz
      obtain ⟨v,hv⟩:∃ v,z.1[m]? = some v:=⟨_,List.getElem?_eq_getElem (by rw [hr.1,hen];exact hmk)⟩
      simp only [hz,Option.bind_some,hv,Option.getD_some]
      exact (hr.2 m v d hv hd).2)
     trivial
    have hlen:((l.map (·.2)).map en).length=len:=by simp [hll]
    rw [hlen] at key
    exact key
theorem cells40:Tryz.prog.cellsOf 40=2:=by kernel_rfl
theorem cells78:Tryz.prog.cellsOf 78=3:=by kernel_rfl
theorem cells3:Tryz.prog.cellsOf 3=1:=by kernel_rfl
theorem cells22:Tryz.prog.cellsOf 22=1:=by kernel_rfl
theorem cells23:Tryz.prog.cellsOf 23=1:=by kernel_rfl
theorem cells25:Tryz.prog.cellsOf 25=3:=by kernel_rfl
theorem cells30:Tryz.prog.cellsOf 30=1:=by kernel_rfl
theorem cells32:Tryz.prog.cellsOf 32=2:=by kernel_rfl
theorem cells65:Tryz.prog.cellsOf 65=4:=by kernel_rfl
theorem cells135:Tryz.prog.cellsOf 135=1:=by kernel_rfl
theorem rd_row (h:DataW.trod enc Tryz.prog w base spare held fuel 40 cs=some x):∃ r:Row,okRow r∧RelL dp w cs (eRow r):=by
 obtain ⟨y0,y1,n,_,hl,h0,h1⟩:=trod_struct2 Tryz.underlying40 h
 rw [cells40] at hl
 simp only [cells3] at h0 h1
 match cs,hl with
 | [a,b],_=>
  obtain ⟨n0,e0,w0⟩:=rd_int h0
  obtain ⟨n1,e1,w1⟩:=rd_int h1
  simp at e0 e1
  subst e0 e1
  exact ⟨(n0,n1),⟨w0,w1⟩,RelL.cons rfl (.i _ _) (RelL.cons rfl (.i _ _) RelL.nil)⟩
theorem rd_nd (h:DataW.trod enc Tryz.prog w base spare held fuel 78 cs=some x):∃ r:Nd,okNd64 r∧RelL dp w cs (eNd r):=by
 obtain ⟨y0,y1,y2,n,_,hl,h0,h1,h2⟩:=Go.Deep.trod_struct3 Tryz.underlying78 h
 rw [cells78] at hl
 simp only [cells3] at h0 h1 h2
 match cs,hl with
 | [a,b,c],_=>
  obtain ⟨n0,e0,w0⟩:=rd_int h0
  obtain ⟨n1,e1,w1⟩:=rd_int h1
  obtain ⟨n2,e2,w2⟩:=rd_int h2
  simp at e0 e1 e2
  subst e0 e1 e2
  exact ⟨(n0,n1,n2),⟨w0,w1,w2⟩,RelL.cons rfl (.i _ _) (RelL.cons rfl (.i _ _) (RelL.cons rfl (.i _ _) RelL.nil))⟩
theorem rd_limb (h:DataW.trod enc Tryz.prog w base spare held fuel 135 cs=some x):∃ n:Nat,n<NL.B∧RelL dp w cs [.i .u32 (n:Int)]:=by
 obtain ⟨n,rfl,_,h2⟩:=DataW.trod_int Tryz.underlying135 h
 simp only [Lit.wf,Bool.and_eq_true,decide_eq_true_eq,IntKind.min,IntKind.max,IntKind.signed,IntKind.bits] at h2
 obtain ⟨k,rfl⟩:∃ k:Nat,n=k:=⟨n.toNat,by simp at h2;omega⟩
 refine ⟨k,?_,RelL.cons rfl (.i _ _) RelL.nil⟩
 simp at h2
 simp only [NL.B]
 omega
theorem rd_lims (h:DataW.trod enc Tryz.prog w base spare held fuel 30 cs=some x):∃ nl l v,(nl=true→l=[])∧NL.Lim l∧l.length≤maxLen∧cs=[v]∧v.oneCell'=true∧Rel dp (there w) [] w v (eLims nl l .ro):=
 rd_sliceG (fun n:Nat=>[D.i .u32 (n:Int)]) (fun n=>n<NL.B) Tryz.underlying30 cells135 (by decide) (fun _=>rfl) (fun _ _ _ _ h=>rd_limb h) h
theorem rd_q (h:DataW.trod enc Tryz.prog w base spare held fuel 32 cs=some x):∃ n1 a n2 b,NF n1 a∧NF n2 b∧NL.Lim a∧NL.Lim b∧RelL dp w cs [eLims n1 a .ro,eLims n2 b .ro]:=by
 obtain ⟨y0,y1,n,_,hl,h0,h1⟩:=trod_struct2 Tryz.underlying32 h
 rw [cells32] at hl
 simp only [cells30] at h0 h1
 match cs,hl with
 | [a,b],_=>
  obtain ⟨n1,l1,v1,g1,k1,_,e1,o1,r1⟩:=rd_lims (dp:=dp) h0
  obtain ⟨n2,l2,v2,g2,k2,_,e2,o2,r2⟩:=rd_lims (dp:=dp) h1
  simp at e1 e2
  subst e1 e2
  exact ⟨n1,l1,n2,l2,g1,g2,k1,k2,RelL.cons o1 r1 (RelL.cons o2 r2 RelL.nil)⟩
theorem rd_ch (h:DataW.trod enc Tryz.prog w base spare held fuel 65 cs=some x):∃ c:Ch,(NF c.2.1.1 c.num∧NF c.2.2.1 c.den∧NL.Lim c.num∧NL.Lim c.den)∧RelL dp w cs (eCh c):=by
 obtain ⟨y0,y1,n,_,hl,h0,h1⟩:=trod_struct2 Tryz.underlying65 h
 rw [cells65] at hl
 simp only [cells40,cells32] at h0 h1
 match cs,hl with
 | [a,b,c,d],_=>
  obtain ⟨r,_,q0⟩:=rd_row (dp:=dp) h0
  obtain ⟨n1,l1,n2,l2,g1,g2,k1,k2,q1⟩:=rd_q (dp:=dp) h1
  exact ⟨(r,(n1,l1),(n2,l2)),⟨g1,g2,k1,k2⟩,q0.app q1⟩
theorem rd_rows (h:DataW.trod enc Tryz.prog w base spare held fuel 22 cs=some x):∃ nl l v,(nl=true→l=[])∧(∀ a∈l,okRow a)∧l.length≤maxLen∧cs=[v]∧v.oneCell'=true∧Rel dp (there w) [] w v (eRows nl l):=
 rd_sliceG eRow okRow Tryz.underlying22 cells40 (by decide) (fun _=>rfl) (fun _ _ _ _ h=>rd_row h) h
theorem rd_nds (h:DataW.trod enc Tryz.prog w base spare held fuel 23 cs=some x):∃ nl l v,(nl=true→l=[])∧(∀ a∈l,okNd64 a)∧l.length≤maxLen∧cs=[v]∧v.oneCell'=true∧Rel dp (there w) [] w v (eNds nl l):=
 rd_sliceG eNd okNd64 Tryz.underlying23 cells78 (by decide) (fun _=>rfl) (fun _ _ _ _ h=>rd_nd h) h
theorem rd_chs (h:DataW.trod enc Tryz.prog w base spare held fuel 26 cs=some x):∃ nl l v,(nl=true→l=[])∧(∀ c∈l,NF c.2.1.1 c.num∧NF c.2.2.1 c.den∧NL.Lim c.num∧NL.Lim c.den)∧l.length≤maxLen∧cs=[v]∧v.oneCell'=true∧Rel dp (there w) [] w v (eChs nl l):=
 rd_sliceG eCh _ Tryz.underlying26 cells65 (by decide) (fun _=>rfl) (fun _ _ _ _ h=>rd_ch h) h
variable {r:Reach} {b0:Nat} {v:Value} {d:DataW H} {ps:List MemPlace}
theorem rd_chsArg (hv:Value.okWide Tryz.prog w r b0 26 v) (h:DataW.Trod enc Tryz.prog w base spare held 26 v d ps) :
  ∃ nl l,(nl=true→l=[])∧(∀ c∈l,NF c.2.1.1 c.num∧NF c.2.2.1 c.den∧NL.Lim c.num∧NL.Lim c.den)∧l.length≤maxLen∧Rel dp (there w) [] w v (eChs nl l):=by
 obtain ⟨fuel,h⟩:=h
 simp only [Value.okWide,Tryz.underlying26] at hv
 have hc:v.cells.toList=[v]:=by
  cases v <;> first | rfl | (simp only [Cell.okWide,Tryz.underlying26,Cell.ok] at hv)
 rw [hc] at h
 obtain ⟨nl,ord,va,g1,g2,g3,e1,_,r1⟩:=rd_chs (dp:=dp) h
 injection e1 with e1
 subst e1
 exact ⟨nl,ord,g1,g2,g3,r1⟩
theorem rd_bdd (hv:Value.okWide Tryz.prog w r b0 25 v) (h:DataW.Trod enc Tryz.prog w base spare held 25 v d ps) :
  ∃ nl nl' ord ns root,(nl=true→ord=[])∧(nl'=true→ns=[])∧(∀ a∈ord,okRow a)∧(∀ a∈ns,okNd64 a)∧in64 root∧ord.length≤maxLen∧ns.length≤maxLen∧Rel dp (there w) [] w v (eB nl nl' ord ns root):=by
 obtain ⟨fuel,h⟩:=h
 simp only [Value.okWide,Tryz.underlying25] at hv
 obtain ⟨cs,rfl,hsz,ts,hts,_,hcell⟩:=hv
 obtain ⟨y0,y1,y2,n,_,hl,h0,h1,h2⟩:=Go.Deep.trod_struct3 Tryz.underlying25 h
 simp only [cells3,cells22,cells23] at h0 h1 h2
 rw [cells25] at hl
 have hcs:(Value.agg cs).cells.toList=cs.toList:=rfl
 rw [hcs] at h0 h1 h2 hl
 obtain ⟨l⟩:=cs
 match l,hl with
 | [a,b,c],_=>
  obtain ⟨nl,ord,va,g1,g2,g3,e1,_,r1⟩:=rd_rows (dp:=dp) h0
  obtain ⟨nl',ns,vb,k1,k2,k3,e2,_,r2⟩:=rd_nds (dp:=dp) h1
  obtain ⟨root,e3,i3⟩:=rd_int h2
  simp at e1 e2 e3
  subst e1 e2 e3
  refine ⟨nl,nl',ord,ns,root,g1,k1,g2,k2,i3,g3,k3,.agg _ _ rfl ?_⟩
  intro j v d hv hd
  match j with
  | 0=>simp at hv hd;subst hv hd;exact r1
  | 1=>simp at hv hd;subst hv hd;exact r2
  | 2=>simp at hv hd;subst hv hd;exact .i _ _
  | j+3=>simp at hv
end
end Go.Proofs.YtjniafcnjbbomaaGreatDoor.DE.V

namespace Go.Proofs.YtjniafcnjbbomaaGreatDoor.DE.V
open Go NL
def J15 (nl:Bool) (l:List Ch):Nat→List D→Store→Prop:=fun q fr S=>∃ i a2 a4 a8 a38,q=l.length-i∧i≤l.length∧(∀ j c,j<i→l[j]? = some c→VC c∧∀ c',c'∈l.take j→c'.1≠c.1)∧S=[] ∧
 fr=mkf 52 [(0,eChs nl l),(2,a2),(3,.i .i64 i),(4,a4),(8,a8),(38,a38)]
def K15 (nl:Bool) (l:List Ch) (i:Nat) (c:Ch):Nat→List D→Store→Prop:=fun q fr S=>∃ j a2 a8 a38,q=i-j∧j≤i∧(∀ c',c'∈l.take j→c'.1≠c.1)∧S=[] ∧
 fr=mkf 52 [(0,eChs nl l),(2,a2),(3,.i .i64 i),(4,.i .i64 j),(8,a8),(38,a38)]
theorem bin_row (r s:Row):binD .eql (.agg [.i,.i]) (.agg (eRow r)) (.agg (eRow s))=some (.b (decide (r=s))):=bin_eql_row r s
open Classical in
theorem v15 (nl:Bool) (l:List Ch) (hok:OkL l) (hb:Bd l.length):isoCall (call dp) 15 [eChs nl l]=some (.b (decide (VL l))):=by
 apply i15 _ _ (by simp [noRefL]) rfl
 simp only [s15,strip_chs]
 generalize hR:QS (call dp) c15_r1 _=R
 refine W_loop (J15 nl l) ?_ l.length _ _ ⟨0,.top,.top,.top,.top,by omega,by omega,fun j c hj=>by omega,rfl,rfl⟩
 rintro q fr S ⟨i,a2,a4,a8,a38,rfl,hi,hv,rfl,rfl⟩
 rw [←wp_W,e15_1]
 by_cases hlt:i<l.length
 ·obtain ⟨c,hc⟩:∃ c,l[i]? = some c:=⟨l[i],List.getElem?_eq_getElem hlt⟩
  have ok:=hok c (List.mem_of_getElem? hc)
  have u54:=v54 c.1
  have u55:isoCall (call dp) 55 [eCq c]=some (.b (decide (VR c.num c.den))):=v55 _ _ _ _ ok.l1 ok.l2 ok.f1 ok.f2 ok.b1 ok.b2
  have u56:isoCall (call dp) 56 [eCq c]=some (.b (decide (VR c.num c.den∧val c.num≤val c.den))):=v56 _ _ _ _ ok.l1 ok.l2 ok.f1 ok.f2 ok.b1 ok.b2
  have bad:¬VL l→∀ x y z,R .ret (mkf 52 [(0,.top),(2,(.b false)),(3,.top),(4,x),(8,y),(38,z)]) []:=by
   intro hn x y z
   rw [←hR,QS_ret,FinK_ret1,decide_eq_false hn]
   rfl
  simp only [s15_1,len_chs,OX_some,lss_nat,hlt,decide_true,WB_true,ia_chs hc,fa_el,Nat.zero_add,ld_ch0,ld_ch2]
  rw [u54]
  by_cases h1:1≤c.1.1∧1≤c.1.2
  ·by_cases h2:VR c.num c.den
   ·by_cases h3:VR c.num c.den∧val c.num≤val c.den
    ·simp only [h1,h2,h3,u55,u56,and_self,decide_true,OX_some,un_not,Bool.not_true,gsel_ff,pick_f,ia_chs hc,fa_el,Nat.zero_add,ld_ch2,WB_false]
     refine W_loop (K15 nl l i c) ?_ i _ _ ⟨0,a2,.top,a38,by omega,by omega,fun c' hc'=>by simp at hc',rfl,rfl⟩
     rintro q fr S ⟨j,a2,a8,a38,rfl,hj,hw,rfl,rfl⟩
     rw [←wp_W,e15_0]
     by_cases hji:j<i
     ·obtain ⟨c',hc'⟩:∃ c,l[j]? = some c:=⟨l[j],List.getElem?_eq_getElem (by omega)⟩
      simp only [s15_0,lss_nat,hji,decide_true,OX_tt,WB_true,ia_chs hc,ia_chs hc',OX_some,fa_el,Nat.zero_add,ld_ch0,bin_row]
      by_cases he:c'.1=c.1
      ·simp only [he,decide_true,OX_tt,WB_true,Qseq_ret,Qblk_ret]
       refine bad (fun h=>?_) _ _ _
       refine (h i c hc).2 c' ?_ he
       exact List.mem_of_getElem? (i:=j) (by rw [List.getElem?_take_of_lt hji];exact hc')
      ·simp only [he,decide_false,OX_ff,WB_false,OX_some,inc_nat (show Bd j by unfold Bd at *;omega),Qseq_normal]
       refine ⟨i-(j+1),by omega,j+1,a2,a8,.top,rfl,by omega,?_,rfl,rfl⟩
       intro d hd
       rw [take_snoc hc'] at hd
       rcases List.mem_append.1 hd with h | h
       ·exact hw d h
       ·rw [List.mem_singleton.1 h];exact he
     ·have:j=i:=by omega
      subst this
      simp only [s15_0,lss_nat,hji,decide_false,OX_ff,WB_false,Qseq_exit,Qblk_same,Qblk_normal,QS_normal,e15_r0,s15_r0,inc_nat (show Bd j by unfold Bd at *;omega),OX_some,Qseq_normal]
      refine ⟨l.length-(j+1),by omega,j+1,a2,.top,a8,.top,rfl,by omega,?_,rfl,rfl⟩
      intro k c' hk hc'
      by_cases e:k=j
      ·subst e
       rw [hc] at hc'
       injection hc' with hc'
       subst hc'
       exact ⟨⟨⟨h1,h2⟩,h3⟩,hw⟩
      ·exact hv k c' (by omega) hc'
    ·rw [decide_eq_false h3] at u56
     simp only [h1,h2,u55,u56,and_self,decide_true,OX_some,un_not,Bool.not_true,Bool.not_false,gsel_ff,gsel_tf,pick_f,pick_t,ia_chs hc,fa_el,Nat.zero_add,ld_ch2,WB_true,Qseq_ret,Qblk_ret]
     exact bad (fun h=>h3 (h i c hc).1.2) _ _ _
   ·simp only [h1,h2,u55,and_self,decide_true,decide_false,OX_some,un_not,Bool.not_true,Bool.not_false,gsel_ff,gsel_tf,pick_f,pick_t,ia_chs hc,fa_el,Nat.zero_add,ld_ch2,WB_true,Qseq_ret,Qblk_ret]
    exact bad (fun h=>h2 (h i c hc).1.1.2) _ _ _
  ·simp only [h1,decide_false,OX_some,un_not,Bool.not_false,gsel_tf,pick_t,WB_true,Qseq_ret,Qblk_ret]
   exact bad (fun h=>h1 (h i c hc).1.1.1) _ _ _
 ·have:i=l.length:=by omega
  subst this
  have hvl:VL l:=fun j c hj=>hv j c (by
   rcases Nat.lt_or_ge j l.length with q | q
   ·exact q
   ·rw [List.getElem?_eq_none q] at hj;cases hj) hj
  simp only [s15_1,len_chs,OX_some,lss_nat,hlt,decide_false,WB_false,Qseq_exit,Qblk_same]
  rw [←hR]
  simp only [QS_normal,e15_r1,s15_r1]
  rw [FinK_ret1,decide_eq_true hvl]
  rfl
def FewL (l:List Ch):Prop:=(∀ c,c∈l→c.num.length≤4∧c.den.length≤4)∧l.length≤8
def J7 (nl:Bool) (l:List Ch):Nat→List D→Store→Prop:=fun q fr S=>∃ i a2 a7,q=l.length-i∧i≤l.length∧(∀ c,c∈l.take i→c.num.length≤4∧c.den.length≤4)∧S=[] ∧
 fr=mkf 20 [(0,eChs nl l),(2,a2),(3,.i .i64 i),(7,a7)]
theorem inc_lt {a b:Nat} (h:a<b) (hb:b≤9223372036854775807):binD .add .num (.i .i64 a) (.i .i64 1)=some (.i .i64 ((a+1:Nat):Int)):=add_nat (a:=a) (b:=1) (by omega)
open Classical in
theorem v7 (nl:Bool) (l:List Ch) (hb:l.length≤9223372036854775807):isoCall (call dp) 7 [eChs nl l]=some (.b (decide (FewL l))):=by
 apply i7 _ _ (by simp [noRefL]) rfl
 simp only [s7,strip_chs]
 generalize hR:QS (call dp) c7_r0 _=R
 refine W_loop (J7 nl l) ?_ l.length _ _ ⟨0,.top,.top,by omega,by omega,fun c hc=>by simp at hc,rfl,rfl⟩
 rintro q fr S ⟨i,a2,a7,rfl,hi,hv,rfl,rfl⟩
 rw [←wp_W,e7_0]
 by_cases hlt:i<l.length
 ·obtain ⟨c,hc⟩:∃ c,l[i]? = some c:=⟨l[i],List.getElem?_eq_getElem hlt⟩
  have u31:isoCall (call dp) 31 [eCq c,.i .i64 4]=some (.b (decide (c.num.length≤4∧c.den.length≤4))):=v31 _ _ _ _ 4
  simp only [s7_0,len_chs,OX_some,lss_nat,hlt,decide_true,WB_true,ia_chs hc,fa_el,Nat.zero_add,ld_ch2,u31,un_not]
  by_cases h:c.num.length≤4∧c.den.length≤4
  ·simp only [h,and_self,decide_true,Bool.not_true,WB_false,inc_lt hlt hb,OX_some,Qseq_normal]
   refine ⟨l.length-(i+1),by omega,i+1,a2,.top,rfl,by omega,?_,rfl,rfl⟩
   intro d hd
   rw [take_snoc hc] at hd
   rcases List.mem_append.1 hd with h' | h'
   ·exact hv d h'
   ·rw [List.mem_singleton.1 h'];exact h
  ·have hn:¬FewL l:=fun k=>h (k.1 c (List.mem_of_getElem? hc))
   simp only [h,decide_false,Bool.not_false,WB_true,Qseq_ret,Qblk_ret]
   rw [←hR,QS_ret,FinK_ret1,decide_eq_false hn]
   rfl
 ·have:i=l.length:=by omega
  subst this
  rw [List.take_length] at hv
  have h8:binD .leq .num (.i .i64 (l.length:Int)) (.i .i64 8)=some (.b (decide (FewL l))):=by
   rw [bin_leq]
   congr 2
   exact decide_eq_decide.2 ⟨fun h=>⟨hv,by omega⟩,fun h=>by have:=h.2;omega⟩
  simp only [s7_0,len_chs,OX_some,lss_nat,hlt,decide_false,WB_false,Qseq_exit,Qblk_same]
  rw [←hR]
  simp only [QS_normal,e7_r0,s7_r0,len_chs,OX_some,h8]
  rw [FinK_ret1]
  rfl
def Grow (S S':Store):Prop:=∃ T,S'=T++S
theorem Grow.refl (S:Store):Grow S S:=⟨[],rfl⟩
theorem Grow.cons {S S':Store} (h:Grow S S') (e:Ent):Grow S (e::S'):=by obtain ⟨T,rfl⟩:=h;exact ⟨e::T,rfl⟩
theorem Grow.get {S S':Store} (h:Grow S S') {id:Nat} {e:Ent} (k:sget S id=some e):sget S' id=some e:=by
 obtain ⟨T,rfl⟩:=h
 induction T with
 | nil=>exact k
 | cons x T ih=>exact sget_push ih
theorem Grow.set {S S':Store} (h:Grow S S') {id:Nat} (k:id<S.length) (e:Ent):Grow (sset S id e) (sset S' id e):=by
 obtain ⟨T,rfl⟩:=h
 induction T with
 | nil=>exact Grow.refl _
 | cons x T ih=>
  have:¬id=List.length (T++S):=by simp;omega
  simp only [List.cons_append,sset_cons,this,if_false]
  exact ih.cons x
theorem v59 (c:Ch) (r:Row) (id:Nat) (S:Store) (hS:sget S id=some (.box (eRow r))):∃ S',call dp 59 [.agg (eCh c),.bx id 0] S=some (.b (decide (c.1=r)),S')∧Grow S S':=by
 obtain ⟨d,S',e,rfl,g⟩:=f59 (.agg (eCh c)) (.bx id 0) S (fun d S'=>d = .b (decide (c.1=r))∧Grow S S') (by
  have hc:cellsK 4 true (.agg (eCh c))=some (eCh c):=rfl
  have h2:ldD (Ent.box (eCh c)::S) 2 true (.bx id 0)=some (.agg (eRow r)):=by
   rw [ldD_bx,sget_push hS];rfl
  simp only [s59,bxx_eq,hc,OX_some,fa_bx,Nat.zero_add,bx_ch0,h2,bin_row]
  exact ⟨trivial,(Grow.refl S).cons _⟩)
 exact ⟨S',e,g⟩
def J58 (nl:Bool) (l:List Ch) (r:Row) (id:Nat) (S:Store):Nat→List D→Store→Prop:=fun q fr S'=>∃ i a4 a9,q=l.length-i∧i≤l.length∧(∀ c,c∈l.take i→c.1≠r)∧Grow S S' ∧
 fr=mkf 19 [(0,eChs nl l),(1,.fn 59 [.bx id 0]),(4,a4),(7,.i .i64 l.length),(8,.i .i64 i),(9,a9)]
inductive At (l:List Ch) (r:Row):Int→Option Ch→Prop
 | none:(∀ c,c∈l→c.1≠r)→At l r (-1) none
 | some (i:Nat) (c:Ch):l[i]? = some c→c.1=r→(∀ c',c'∈l.take i→c'.1≠r)→At l r i (some c)
theorem find_at {l:List Ch} {r:Row} {i:Nat} {c:Ch} (h:l[i]? = some c) (e:c.1=r) (hn:∀ c',c'∈l.take i→c'.1≠r):l.find? (fun c=>decide (c.1=r))=some c:=by
 induction l generalizing i with
 | nil=>simp at h
 | cons x l ih=>
  cases i with
  | zero=>
   simp at h
   subst h
   simp [e]
  | succ i=>
   have hx:x.1≠r:=hn x (by simp)
   rw [List.find?_cons_of_neg (by simpa using hx)]
   exact ih (by simpa using h) (fun c' hc'=>hn c' (by simp [hc']))
theorem At.find {l:List Ch} {r:Row} {k:Int} {o:Option Ch} (h:At l r k o):l.find? (fun c=>decide (c.1=r))=o:=by
 cases h with
 | none hn=>rw [List.find?_eq_none];intro c hc;simpa using hn c hc
 | some i c h e hn=>exact find_at h e hn
theorem v58 (nl:Bool) (l:List Ch) (r:Row) (id:Nat) (S:Store) (hS:sget S id=some (.box (eRow r))) (hb:Bd l.length):∃ k o S',call dp 58 [eChs nl l,.fn 59 [.bx id 0]] S=some (.i .i64 k,S')∧At l r k o∧Grow S S':=by
 obtain ⟨d,S',e,k,o,rfl,h,g⟩:=f58 (eChs nl l) (.fn 59 [.bx id 0]) S (fun d S'=>∃ k o,d = .i .i64 k∧At l r k o∧Grow S S') (by
  simp only [s58,len_chs,OX_some]
  generalize hR:QS (call dp) c58_r0 _=R
  refine W_loop (J58 nl l r id S) ?_ l.length _ _ ⟨0,.top,.top,by omega,by omega,fun c hc=>by simp at hc,Grow.refl S,rfl⟩
  rintro q fr S' ⟨i,a4,a9,rfl,hi,hv,hg,rfl⟩
  rw [←wp_W,e58_0]
  by_cases hlt:i<l.length
  ·obtain ⟨c,hc⟩:∃ c,l[i]? = some c:=⟨l[i],List.getElem?_eq_getElem hlt⟩
   obtain ⟨S2,e2,g2⟩:=v59 c r id S' (hg.get hS)
   have hg2:Grow S S2:=by
    obtain ⟨T,rfl⟩:=hg
    obtain ⟨T',rfl⟩:=g2
    exact ⟨T'++T,by simp⟩
   simp only [s58_0,lss_nat,hlt,decide_true,OX_tt,WB_true,ia_chs hc,ld_ch,OX_some,fnD_fn,List.cons_append,List.nil_append,e2]
   by_cases he:c.1=r
   ·simp only [he,decide_true,WB_true,Qseq_ret,Qblk_ret]
    rw [←hR,QS_ret,FinK_ret1]
    exact ⟨i,some c,rfl,.some i c hc he hv,hg2⟩
   ·simp only [he,decide_false,WB_false,inc_nat (show Bd i by unfold Bd at *;omega),OX_some,Qseq_normal]
    refine ⟨l.length-(i+1),by omega,i+1,a4,.top,rfl,by omega,?_,hg2,rfl⟩
    intro d hd
    rw [take_snoc hc] at hd
    rcases List.mem_append.1 hd with h' | h'
    ·exact hv d h'
    ·rw [List.mem_singleton.1 h'];exact he
  ·have:i=l.length:=by omega
   subst this
   rw [List.take_length] at hv
   simp only [s58_0,lss_nat,hlt,decide_false,OX_ff,WB_false,Qseq_exit,Qblk_same]
   rw [←hR]
   simp only [QS_normal,e58_r0,s58_r0]
   rw [FinK_ret1]
   exact ⟨-1,none,rfl,.none hv,hg⟩)
 exact ⟨k,o,S',e,h,g⟩
theorem v60 (n1 n2:Bool) (a b:List Nat) (f1:NF n1 a) (f2:NF n2 b) (ba:a.length≤1000) (bb:b.length≤1000):isoCall (call dp) 60 [eQ n1 n2 a b]=some (eQ n1 n2 a b):=by
 apply i60 _ _ (by simp [noRefL]) (by simp)
 simp [s60,v110 n1 a f1 ba,v110 n2 b f2 bb,bld2,st2,ldc,eQ]
def ofD (l:List Ch) (r:Row):D:=match l.find? (fun c=>decide (c.1=r)) with | some c=>eCq c | none=>eQ false false (ofN 1) (ofN 1)
theorem stq (S:Store) (id:Nat) (x y:D) (n1 n2:Bool) (a b:List Nat) (h:sget S id=some (.box [x,y])) (Post:D→Store→Prop) (hp:∀ S',Post (eQ n1 n2 a b) S') :
  OX (stD S 2 true (.bx id 0) (eQ n1 n2 a b)) fun S'=>OX (ldc S' 2 true (.bx id 0)) fun d=>Post d S':=by
 rw [st2q S id x y n1 n2 a b h,OX_some]
 have:ldc (sset S id (Ent.box [eLims n1 a .ro,eLims n2 b .ro])) 2 true (.bx id 0)=some (eQ n1 n2 a b):=by
  simp only [ldc,ldD_bx,sget_sset _ (sget_lt h)]
  rfl
 rw [this,OX_some]
 exact hp _
theorem v17 (nl:Bool) (l:List Ch) (r:Row) (hok:OkL l) (hb:Bd l.length) (hf:∀ c,c∈l→c.num.length≤1000∧c.den.length≤1000):isoCall (call dp) 17 [.agg (eRow r),eChs nl l]=some (ofD l r):=by
 have hno:noRef (ofD l r)=true:=by unfold ofD;split <;> simp [eCq]
 apply i17 _ _ _ (by simp [noRefL]) hno
 obtain ⟨k,o,S',e,hat,g⟩:=v58 nl l r 0 [.box [.sl 1 true [] .ro,.sl 1 true [] .ro],.box (eRow r)] rfl hb
 have hg1:=g.get (id:=1) (e:=.box [.sl 1 true [] .ro,.sl 1 true [] .ro]) rfl
 simp only [s17,strip_row,strip_chs,bxx_eq,cellsK_row,OX_some,al_eq,List.length_cons,List.length_nil,Nat.zero_add,e]
 have hfind:=hat.find
 cases hat with
 | none hn=>
  have hl:binD .lss .num (.i .i64 (-1)) (.i .i64 0)=some (.b true):=by rw [bin_lss];rfl
  simp only [hl,OX_some,WB_true,v28]
  refine stq _ 1 _ _ _ _ _ _ hg1 _ ?_
  intro S'
  unfold ofD
  rw [hfind]
  rfl
 | some i c h he hn=>
  have hm:=List.mem_of_getElem? h
  have hl:binD .lss .num (.i .i64 (i:Int)) (.i .i64 0)=some (.b false):=by rw [bin_lss];simp
  have h60:isoCall (call dp) 60 [eCq c]=some (eCq c):=v60 _ _ _ _ (hok c hm).f1 (hok c hm).f2 (hf c hm).1 (hf c hm).2
  simp only [hl,OX_some,WB_false,ia_chs h,fa_el,Nat.zero_add,ld_ch2,h60]
  refine stq _ 1 _ _ _ _ _ _ hg1 _ ?_
  intro S'
  unfold ofD
  rw [hfind]
  rfl
def J18 (nl:Bool) (l:List Ch) (r:Row):Nat→List D→Store→Prop:=fun q fr S'=>∃ i a9,q=l.length-i∧i≤l.length∧(∀ c,c∈l.take i→c.1≠r)∧S'=[.box [.sl 1 true [] .ro,.sl 1 true [] .ro],.box (eRow r)] ∧
 fr=mkf 25 [(1,eChs nl l),(2,.bx 0 0),(4,.bx 1 0),(5,.i .i64 i),(9,a9)]
theorem v18 (nl:Bool) (l:List Ch) (r:Row) (hb:Bd l.length):isoCall (call dp) 18 [.agg (eRow r),eChs nl l]=some (ofD l r):=by
 have hno:noRef (ofD l r)=true:=by unfold ofD;split <;> simp [eCq]
 apply i18 _ _ _ (by simp [noRefL]) hno
 simp only [s18,strip_row,strip_chs,bxx_eq,cellsK_row,OX_some,al_eq,List.length_cons,List.length_nil,Nat.zero_add]
 generalize hR:QS (call dp) c18_r0 _=R
 refine W_loop (J18 nl l r) ?_ l.length _ _ ⟨0,.top,by omega,by omega,fun c hc=>by simp at hc,rfl,rfl⟩
 rintro q fr S' ⟨i,a9,rfl,hi,hv,rfl,rfl⟩
 rw [←wp_W,e18_0]
 have hg1:sget [Ent.box [.sl 1 true [] .ro,.sl 1 true [] .ro],.box (eRow r)] 1=some (.box [.sl 1 true [] .ro,.sl 1 true [] .ro]):=rfl
 have h2:ldD [Ent.box [.sl 1 true [] .ro,.sl 1 true [] .ro],.box (eRow r)] 2 true (.bx 0 0)=some (.agg (eRow r)):=rfl
 have fin:∀ n1 n2 a b x1 x2 x5 x9,ofD l r=eQ n1 n2 a b→OX (stD [Ent.box [.sl 1 true [] .ro,.sl 1 true [] .ro],.box (eRow r)] 2 true (.bx 1 0) (eQ n1 n2 a b)) fun S15=>R .ret (mkf 25 [(1,x1),(2,x2),(4,.bx 1 0),(5,x5),(9,x9)]) S15:=by
  intro n1 n2 a b x1 x2 x5 x9 ho
  rw [←hR]
  simp only [QS_ret]
  refine stq _ 1 _ _ _ _ _ _ hg1 (fun d _=>stripT d=ofD l r) ?_
  intro S'
  rw [ho]
  rfl
 by_cases hlt:i<l.length
 ·obtain ⟨c,hc⟩:∃ c,l[i]? = some c:=⟨l[i],List.getElem?_eq_getElem hlt⟩
  simp only [s18_0,len_chs,OX_some,lss_nat,hlt,decide_true,WB_true,ia_chs hc,fa_el,Nat.zero_add,ld_ch0,ld_ch2,h2,bin_row]
  by_cases he:c.1=r
  ·simp only [he,decide_true,WB_true,Qseq_ret,Qblk_ret,OX_some]
   refine fin _ _ _ _ _ _ _ _ ?_
   unfold ofD
   rw [find_at hc he hv]
   rfl
  ·simp only [he,decide_false,WB_false,inc_nat (show Bd i by unfold Bd at *;omega),OX_some,Qseq_normal]
   refine ⟨l.length-(i+1),by omega,i+1,.top,rfl,by omega,?_,rfl,rfl⟩
   intro d hd
   rw [take_snoc hc] at hd
   rcases List.mem_append.1 hd with h' | h'
   ·exact hv d h'
   ·rw [List.mem_singleton.1 h'];exact he
 ·have:i=l.length:=by omega
  subst this
  rw [List.take_length] at hv
  simp only [s18_0,len_chs,OX_some,lss_nat,hlt,decide_false,WB_false,Qseq_exit,Qblk_same]
  have e18:∀ fr S,QS (call dp) c18_r0 (FinK [.cell 4 2 true] fun d _=>stripT d=ofD l r) .normal fr S=R .normal fr S:=fun fr S=>by rw [hR]
  rw [←hR]
  simp only [QS_normal,e18_r0,s18_r0,v46,OX_some]
  refine stq _ 1 _ _ _ _ _ _ hg1 (fun d _=>stripT d=ofD l r) ?_
  intro S'
  unfold ofD
  rw [(At.none hv:At l r (-1) none).find]
  rfl
end Go.Proofs.YtjniafcnjbbomaaGreatDoor.DE.V
