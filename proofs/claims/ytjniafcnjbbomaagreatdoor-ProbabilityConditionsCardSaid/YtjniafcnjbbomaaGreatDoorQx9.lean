/- Joined texts. -/
import Derived.Test.YtjniafcnjbbomaaGreatDoorQx3
import Derived.Test.YtjniafcnjbbomaaGreatDoorQx6
import Derived.Test.YtjniafcnjbbomaaGreatDoorQx7
import Derived.Test.YtjniafcnjbbomaaGreatDoorQx8
import Derived.KernelRfl
import Derived.Test.YtjniafcnjbbomaaGreatDoorRows
import Derived.ProofKit
import Derived.Deep.Slices
import Derived.Deep.Strs
import GoSem.Dispatch
set_option linter.all false
open List (cons_append getElem?_cons_succ getElem?_cons_zero getElem_mem length_cons length_map map_append map_cons map_nil mem_append_left nil_append nodup_append take_length)
open Option (bind_some getD_some map_some)
open Nat (le_refl zero_add)
namespace Go.Proofs.YtjniafcnjbbomaaGreatDoor.DE.V
open Go NL
theorem pO(nl B3:Bool)(x y:Nat)(hx:BO x)(hy:BO y)(hn:NF nl (B1 x))(h0:y≠0) :
  ∃n1 n2,A0 (call dp) 135 [AD nl (B1 x) .ro,AD B3 (B1 y) .ro]=some (.AY [AD n1 (B1 (x/y)) .ro,AD n2 (B1 (x%y)) .ro,.i .i64 0])/\NF n1 (B1 (x/y))/\NF n2 (B1 (x%y)):=by
 have h:=v135 nl B3 (B1 x) (B1 y) (Cr.2 hx) (Cr.2 hy) (CS x) (CS y) hn (fun e=>h0 (Mp.1 e));rw[CB,CB] at h;exact h
def J107(g:Nat):Nat->List D->A1->Prop:=fun y fr S=>∃x n1 n2 a4 a16,BO x/\BO y/\Nat.gcd x y=g/\NF n1 (B1 x)/\NF n2 (B1 y)/\S=[]/\fr=B0 27 [(0,AD n1 (B1 x) .ro),(1,AD n2 (B1 y) .ro),(4,a4),(16,a16)]
theorem v107(nl B3:Bool)(x y:Nat)(hx:BO x)(hy:BO y)(hn:NF nl (B1 x))(Rp:NF B3 (B1 y)) :
  ∃n,A0 (call dp) 107 [AD nl (B1 x) .ro,AD B3 (B1 y) .ro]=some (AD n (B1 (Nat.gcd x y)) .ro)/\NF n (B1 (Nat.gcd x y)):=by
 have l1:=(Cr.2 hx).1;have l2:=(Cr.2 hy).1
 obtain⟨r,e,n,rfl,f⟩:=j107 (AD nl (B1 x) .ro) (AD B3 (B1 y) .ro) (fun d=>∃n,d=AD n (B1 (Nat.gcd x y)) .ro/\NF n (B1 (Nat.gcd x y))) (by simp[A9]) (by rintro _ ⟨n,rfl,_⟩;simp) (by
  simp only[s107,Bh,v143 nl _ (Cr.2 hx),v143 B3 _ (Cr.2 hy),pW nl _ hn (by omega),pW B3 _ Rp (by omega),A5];generalize hR:QS (call dp) RQ _=R;refine AW (J107 (Nat.gcd x y)) ?_ y _ _ ⟨x,nl,B3,.top,.top,hx,hy,rfl,hn,Rp,rfl,rfl⟩;rintro y' fr S ⟨x',n1,n2,a4,a16,fg,hy',hg,f1,f2,rfl,rfl⟩;rw[<-Ay,e107_0];by_cases h0:y'=0
  .subst h0;have fb:A4 .gtr .num (.i .i64 ((B1 0).length:Int)) (.i .i64 0)=some (.b false):=by rw[G5,Mq];rfl
   simp only[bY,B2,A5,fb,Ac,BC,Av];rw[<-hR];rw[Nat.gcd_zero_right] at hg;subst hg;simp only[Ad,e107_r0,iQ];simp only[Aw,WQ];exact⟨n1,rfl,f1⟩
  .have CF:B1 y'≠[]:=fun e=>h0 (Mp.1 e);have hlen:0<(B1 y').length:=List.length_pos_iff.2 CF;have fb:A4 .gtr .num (.i .i64 ((B1 y').length:Int)) (.i .i64 0)=some (.b true):=by rw[Mq];simp;omega
   obtain⟨m1,m2,e,g1,g2⟩:=pO n1 n2 x' y' fg hy' f1 h0;have Ap:x'%y'<y':=Nat.mod_lt _ (by omega);simp only[bY,B2,A5,fb,Al,e,CX,getElem?_cons_zero,getElem?_cons_succ,Ao];refine⟨x'%y',Ap,y',n2,m2,a4,.top,hy',Nat.lt_trans Ap hy',?_,f2,g2,rfl,rfl⟩
   rw[Nat.gcd_comm y',<-hg,Nat.gcd_comm x',Nat.gcd_rec y' x'])
 exact⟨n,e,f⟩
end Go.Proofs.YtjniafcnjbbomaaGreatDoor.DE.V
namespace Go.Proofs.YtjniafcnjbbomaaGreatDoor.DE
open Go
end Go.Proofs.YtjniafcnjbbomaaGreatDoor.DE
namespace Go.Proofs.YtjniafcnjbbomaaGreatDoor.DE.V
open Go NL
theorem jX{k:IntKind}(a b:Nat):A4 .neq .num (.i k a) (.i k b)=some (.b (!decide (a=b))):=by simp only[JA,Int.natCast_inj]
theorem len_lt{x y:Nat}(Vc:x<=y):(B1 x).length<=(B1 y).length:=
 WW (Nat.lt_of_le_of_lt Vc (VH (le_refl _)))
end Go.Proofs.YtjniafcnjbbomaaGreatDoor.DE.V
namespace Go.Proofs.YtjniafcnjbbomaaGreatDoor.DE
open Go
def s53:EV:=fun cf a0 S Post=>Cg 2 true a0 S fun x1 S2=>OX (AO 0 x1) fun x3=>OX (AE S2 1 false x3) fun x4=>OX (A0 cf 105 [x4]) fun x5=>OX (A8 x5 true (AO 1 x1)) fun x6=>OX (A8 x5 true (AE S2 1 false x6)) fun x7=>OX (A8 x5 true (A0 cf 105 [x7])) fun x8=>OX (AU x5 x8 (.b false)) fun x9=>OX (A8 x9 true (AO 1 x1)) fun x10=>OX (A8 x9 true (AE S2 1 false x10)) fun x11=>OX (A8 x9 true (AK false x11)) fun x12=>OX (A8 x9 true (A4 .gtr .num x12 (.n 0))) fun x13=>OX (AU x9 x13 (.b false)) fun x14=>OX (A8 x14 true (AO 0 x1)) fun x15=>OX (A8 x14 true (AE S2 1 false x15)) fun x16=>OX (A8 x14 true (AO 1 x1)) fun x17=>OX (A8 x14 true (AE S2 1 false x17)) fun x18=>OX (A8 x14 true (A0 cf 107 [x16,x18])) fun x19=>OX (A8 x14 true (A0 cf 83 [(.i .u64 1)])) fun x20=>OX (A8 x14 true (A0 cf 106 [x19,x20])) fun x21=>OX (AU x14 x21 (.b false)) fun x22=>Post x22 S2
def i53:I1 53 s53:=JF d53
def s71:Cn:=fun cf a0 a1 S Post=>al [.z 1,.z 1] S fun x1 S2=>OX (A0 cf 105 [a0]) fun x3=>OX (ES .not x3) fun x4=>OX (A8 x4 false (some a1)) fun x5=>OX (A8 x4 false (A0 cf 105 [x5])) fun x6=>OX (A8 x4 false (ES .not x6)) fun x7=>OX (AU x4 (.b true) x7) fun x8=>OX (A8 x8 false (some a1)) fun x9=>OX (A8 x8 false (AK false x9)) fun x10=>OX (A8 x8 false (A4 .eql .num x10 (.n 0))) fun x11=>OX (AU x8 (.b true) x11) fun x12=>WB x12
 (OX (B8 [.z 1,.z 1] []) fun x13=>OX (Ax S2 2 true x1 (.agg x13)) fun S15=>OX (CE S15 2 true x1) fun x16=>Post (.AY [x16,(.n 1)]) S15)
 (OX (A0 cf 107 [a0,a1]) fun x17=>OX (A0 cf 135 [a0,x17]) fun x18=>OX (Ag x18 0) fun x19=>OX (Ag x18 1) fun x20=>OX (Ag x18 2) fun x21=>OX (A0 cf 135 [a1,x17]) fun x22=>OX (Ag x22 0) fun x23=>OX (Ag x22 1) fun x24=>OX (Ag x22 2) fun x25=>OX (B8 [.z 1,.z 1] [(0,1,false,x19),(1,1,false,x23)]) fun x26=>OX (Ax S2 2 true x1 (.agg x26)) fun S28=>OX (CE S28 2 true x1) fun x29=>Post (.AY [x29,(.n 0)]) S28)
def j71:J2 71 s71:=UE d71
abbrev m79(a2 a3 a4 a9 a10 a11 a12:D):List D:=B0 31 [(2,a2),(3,a3),(4,a4),(9,a9),(10,a10),(11,a11),(12,a12)]
def si:Sx:=fun cf a2 a3 a4 a9 a10 a11 a12 S Q=>Q .ret (m79 a4 (.b true) .top .top .top .top .top) S
def e79_r0:N7 XQ m79 si:=yH
def rB:Sx:=fun cf a2 a3 a4 a9 a10 a11 a12 S Q=>OX (A4 .lss .num a11 a10) fun x1=>WB x1
 (OX (Ak 2 a9 a11) fun x2=>OX (AE S 2 true x2) fun x3=>al [.z 1,.z 1] S fun x4 S5=>OX (Ax S5 2 true x4 x3) fun S7=>OX (nO 2 1 x4 (.n 0)) fun x8=>OX (AE S7 1 false x8) fun x9=>OX (nO 2 1 x4 (.n 1)) fun x10=>OX (AE S7 1 false x10) fun x11=>OX (A0 cf 70 [x9,x11]) fun x12=>OX (Ag x12 0) fun x13=>OX (Ag x12 1) fun x14=>OX (A4 .neq .num x14 (.n 0)) fun x15=>WB x15
 (Q .ret (m79 (.z 1) (.b false) .top .top .top .top .top) S7)
 (OX (AV 1 false [x13]) fun x16=>OX (Be 1 false a4 (.sl 1 false x16 .ro) S7) fun p18=>OX (A4 .add .num a11 (.n 1)) fun x19=>Q .normal (m79 a2 a3 p18.1 a9 a10 x19 .top) p18.2))
 (Q (.exit 0) (m79 a2 a3 a4 a9 a10 a11 x1) S)
def e79_0:L7 sH m79 rB:=yx
def s79:EV:=fun cf a0 S Post=>OX (AK false a0) fun x20=>W cf (.loop [] sH) (m79 .top .top (.z 1) a0 x20 (.n 0) .top) S (Af 0 (QS cf XQ (Aw [.t 2,.t 3] Post)))
def i79:I1 79 s79:=JF d79
def s27:Cn:=fun cf a0 a1 S Post=>Cg 2 true a0 S fun x1 S2=>Cg 2 true a1 S2 fun x3 S4=>al [.z 1,.z 1] S4 fun x5 S6=>OX (AE S6 2 true x1) fun x7=>OX (A0 cf 53 [x7]) fun x8=>OX (ES .not x8) fun x9=>OX (A8 x9 false (AE S6 2 true x3)) fun x10=>OX (A8 x9 false (A0 cf 53 [x10])) fun x11=>OX (A8 x9 false (ES .not x11)) fun x12=>OX (AU x9 (.b true) x12) fun x13=>WB x13
 (OX (B8 [.z 1,.z 1] []) fun x14=>OX (Ax S6 2 true x5 (.agg x14)) fun S16=>OX (CE S16 2 true x5) fun x17=>Post (.AY [x17,(.n 1)]) S16)
 (OX (AO 0 x1) fun x18=>OX (AE S6 1 false x18) fun x19=>OX (AO 1 x3) fun x20=>OX (AE S6 1 false x20) fun x21=>OX (B8 [.z 1,.z 1] [(0,1,false,x19),(1,1,false,x21)]) fun x22=>OX (AO 0 x3) fun x23=>OX (AE S6 1 false x23) fun x24=>OX (AO 1 x1) fun x25=>OX (AE S6 1 false x25) fun x26=>OX (B8 [.z 1,.z 1] [(0,1,false,x24),(1,1,false,x26)]) fun x27=>OX (AO 1 x1) fun x28=>OX (AE S6 1 false x28) fun x29=>OX (AO 1 x3) fun x30=>OX (AE S6 1 false x30) fun x31=>OX (B8 [.z 1,.z 1] [(0,1,false,x29),(1,1,false,x31)]) fun x32=>OX (AV 2 true [(.agg x22),(.agg x27),(.agg x32)]) fun x33=>OX (A0 cf 79 [(.sl 2 false x33 .ro)]) fun x34=>OX (Ag x34 0) fun x35=>OX (Ag x34 1) fun x36=>OX (ES .not x36) fun x37=>WB x37
 (OX (B8 [.z 1,.z 1] []) fun x38=>OX (Ax S6 2 true x5 (.agg x38)) fun S40=>OX (CE S40 2 true x5) fun x41=>Post (.AY [x41,(.n 6)]) S40)
 (OX (Ak 1 x35 (.n 0)) fun x42=>OX (AE S6 1 false x42) fun x43=>OX (Ak 1 x35 (.n 1)) fun x44=>OX (AE S6 1 false x44) fun x45=>OX (A0 cf 80 [x43,x45]) fun x46=>OX (Ag x46 0) fun x47=>OX (Ag x46 1) fun x48=>OX (A4 .neq .num x48 (.n 0)) fun x49=>WB x49
 (OX (B8 [.z 1,.z 1] []) fun x50=>OX (Ax S6 2 true x5 (.agg x50)) fun S52=>OX (CE S52 2 true x5) fun x53=>Post (.AY [x53,x48]) S52)
 (OX (Ak 1 x35 (.n 2)) fun x54=>OX (AE S6 1 false x54) fun x55=>OX (A0 cf 71 [x47,x55]) fun x56=>OX (Ag x56 0) fun x57=>OX (Ag x56 1) fun x58=>OX (Ax S6 2 true x5 x57) fun S60=>OX (CE S60 2 true x5) fun x61=>Post (.AY [x61,x58]) S60)))
def j27:J2 27 s27:=UE d27
def s29:Cn:=fun cf a0 a1 S Post=>Cg 2 true a0 S fun x1 S2=>Cg 2 true a1 S2 fun x3 S4=>al [.z 1,.z 1] S4 fun x5 S6=>OX (AE S6 2 true x1) fun x7=>OX (A0 cf 53 [x7]) fun x8=>OX (ES .not x8) fun x9=>OX (A8 x9 false (AE S6 2 true x3)) fun x10=>OX (A8 x9 false (A0 cf 53 [x10])) fun x11=>OX (A8 x9 false (ES .not x11)) fun x12=>OX (AU x9 (.b true) x12) fun x13=>WB x13
 (OX (B8 [.z 1,.z 1] []) fun x14=>OX (Ax S6 2 true x5 (.agg x14)) fun S16=>OX (CE S16 2 true x5) fun x17=>Post (.AY [x17,(.n 1)]) S16)
 (OX (AO 0 x1) fun x18=>OX (AE S6 1 false x18) fun x19=>OX (AO 0 x3) fun x20=>OX (AE S6 1 false x20) fun x21=>OX (B8 [.z 1,.z 1] [(0,1,false,x19),(1,1,false,x21)]) fun x22=>OX (AO 1 x1) fun x23=>OX (AE S6 1 false x23) fun x24=>OX (AO 1 x3) fun x25=>OX (AE S6 1 false x25) fun x26=>OX (B8 [.z 1,.z 1] [(0,1,false,x24),(1,1,false,x26)]) fun x27=>OX (AV 2 true [(.agg x22),(.agg x27)]) fun x28=>OX (A0 cf 79 [(.sl 2 false x28 .ro)]) fun x29=>OX (Ag x29 0) fun x30=>OX (Ag x29 1) fun x31=>OX (ES .not x31) fun x32=>WB x32
 (OX (B8 [.z 1,.z 1] []) fun x33=>OX (Ax S6 2 true x5 (.agg x33)) fun S35=>OX (CE S35 2 true x5) fun x36=>Post (.AY [x36,(.n 6)]) S35)
 (OX (Ak 1 x30 (.n 0)) fun x37=>OX (AE S6 1 false x37) fun x38=>OX (Ak 1 x30 (.n 1)) fun x39=>OX (AE S6 1 false x39) fun x40=>OX (A0 cf 71 [x38,x40]) fun x41=>OX (Ag x41 0) fun x42=>OX (Ag x41 1) fun x43=>OX (Ax S6 2 true x5 x42) fun S45=>OX (CE S45 2 true x5) fun x46=>Post (.AY [x46,x43]) S45))
def j29:J2 29 s29:=UE d29
def s95:EV:=fun cf a0 S Post=>Cg 2 true a0 S fun x1 S2=>al [.z 1,.z 1] S2 fun x3 S4=>OX (AE S4 2 true x1) fun x5=>OX (A0 cf 53 [x5]) fun x6=>OX (ES .not x6) fun x7=>WB x7
 (OX (B8 [.z 1,.z 1] []) fun x8=>OX (Ax S4 2 true x3 (.agg x8)) fun S10=>OX (CE S10 2 true x3) fun x11=>Post (.AY [x11,(.n 1)]) S10)
 (OX (AO 1 x1) fun x12=>OX (AE S4 1 false x12) fun x13=>OX (AO 0 x1) fun x14=>OX (AE S4 1 false x14) fun x15=>OX (A0 cf 161 [x13,x15]) fun x16=>OX (Ag x16 0) fun x17=>OX (Ag x16 1) fun x18=>OX (ES .not x18) fun x19=>WB x19
 (OX (B8 [.z 1,.z 1] []) fun x20=>OX (Ax S4 2 true x3 (.agg x20)) fun S22=>OX (CE S22 2 true x3) fun x23=>Post (.AY [x23,(.n 2)]) S22)
 (OX (AO 1 x1) fun x24=>OX (AE S4 1 false x24) fun x25=>OX (A0 cf 71 [x17,x25]) fun x26=>OX (Ag x26 0) fun x27=>OX (Ag x26 1) fun x28=>OX (Ax S4 2 true x3 x27) fun S30=>OX (CE S30 2 true x3) fun x31=>Post (.AY [x31,x28]) S30))
def j95:J1 95 s95:=xx d95
def s30:EV:=fun cf a0 S Post=>Cg 2 true a0 S fun x1 S2=>OX (AE S2 2 true x1) fun x3=>OX (A0 cf 53 [x3]) fun x4=>OX (A8 x4 true (AO 0 x1)) fun x5=>OX (A8 x4 true (AE S2 1 false x5)) fun x6=>OX (A8 x4 true (AO 1 x1)) fun x7=>OX (A8 x4 true (AE S2 1 false x7)) fun x8=>OX (A8 x4 true (A0 cf 82 [x6,x8])) fun x9=>OX (A8 x4 true (A4 .leq .num x9 (.n 0))) fun x10=>OX (AU x4 x10 (.b false)) fun x11=>Post x11 S2
def i30:I1 30 s30:=JF d30
def s81:EV:=fun cf a0 S Post=>al [.z 1,.z 1] S fun x1 S2=>OX (A0 cf 83 [a0]) fun x3=>OX (A0 cf 83 [(.i .u64 1)]) fun x4=>OX (B8 [.z 1,.z 1] [(0,1,false,x3),(1,1,false,x4)]) fun x5=>OX (Ax S2 2 true x1 (.agg x5)) fun S7=>OX (CE S7 2 true x1) fun x8=>Post x8 S7
def i81:I1 81 s81:=JF d81
def s28:TP0:=fun cf S Post=>al [.z 1,.z 1] S fun x1 S2=>OX (A0 cf 81 [(.i .u64 1)]) fun x3=>OX (Ax S2 2 true x1 x3) fun S5=>OX (CE S5 2 true x1) fun x6=>Post x6 S5
def e28:E0 d28 s28:=kE0
def i28:I0 28 s28:=mI0 d28 (e:=e28)
def s39:TP0:=fun cf S Post=>al [.z 1,.z 1] S fun x1 S2=>OX (A0 cf 81 [(.i .u64 0)]) fun x3=>OX (Ax S2 2 true x1 x3) fun S5=>OX (CE S5 2 true x1) fun x6=>Post x6 S5
def e39:E0 d39 s39:=kE0
def i39:I0 39 s39:=mI0 d39 (e:=e39)
def s16:Cn:=fun cf a0 a1 S Post=>Cg 2 true a0 S fun x1 S2=>Cg 2 true a1 S2 fun x3 S4=>OX (AO 0 x1) fun x5=>OX (AE S4 1 false x5) fun x6=>OX (AO 0 x3) fun x7=>OX (AE S4 1 false x7) fun x8=>OX (A0 cf 57 [x6,x8]) fun x9=>OX (A8 x9 true (AO 1 x1)) fun x10=>OX (A8 x9 true (AE S4 1 false x10)) fun x11=>OX (A8 x9 true (AO 1 x3)) fun x12=>OX (A8 x9 true (AE S4 1 false x12)) fun x13=>OX (A8 x9 true (A0 cf 57 [x11,x13])) fun x14=>OX (AU x9 x14 (.b false)) fun x15=>Post x15 S4
def i16:I2 16 s16:=Oc d16
abbrev m57(a0 a1 a4 a5 a14:D):List D:=B0 26 [(0,a0),(1,a1),(4,a4),(5,a5),(14,a14)]
def sf:V7:=fun cf a0 a1 a4 a5 a14 S Q=>Q .ret (m57 .top .top (.b true) .top .top) S
def e57_r0:N5 WH m57 sf:=kN5
def ta:V7:=fun cf a0 a1 a4 a5 a14 S Q=>OX (AK false a0) fun x1=>OX (A4 .lss .num a5 x1) fun x2=>WB x2
 (OX (Ak 1 a0 a5) fun x3=>OX (AE S 1 false x3) fun x4=>OX (Ak 1 a1 a5) fun x5=>OX (AE S 1 false x5) fun x6=>OX (A4 .neq .num x4 x6) fun x7=>WB x7
 (Q .ret (m57 .top .top (.b false) .top .top) S)
 (OX (A4 .add .num a5 (.n 1)) fun x8=>Q .normal (m57 a0 a1 a4 x8 .top) S))
 (Q (.exit 0) (m57 a0 a1 a4 a5 x2) S)
def e57_0:L5 vE m57 ta:=kL5
def s57:Cn:=fun cf a0 a1 S Post=>OX (AK false a0) fun x9=>OX (AK false a1) fun x10=>OX (A4 .neq .num x9 x10) fun x11=>WB x11
 (Post (.b false) S)
 (W cf (.loop [] vE) (m57 a0 a1 .top (.n 0) .top) S (Af 0 (QS cf WH (Aw [.t 4] Post))))
def i57:I2 57 s57:=Oc d57
def s31:Cn:=fun cf a0 a1 S Post=>Cg 2 true a0 S fun x1 S2=>OX (AO 0 x1) fun x3=>OX (AE S2 1 false x3) fun x4=>OX (AK false x4) fun x5=>OX (A4 .leq .num x5 a1) fun x6=>OX (A8 x6 true (AO 1 x1)) fun x7=>OX (A8 x6 true (AE S2 1 false x7)) fun x8=>OX (A8 x6 true (AK false x8)) fun x9=>OX (A8 x6 true (some a1)) fun x10=>OX (A8 x6 true (A4 .leq .num x9 x10)) fun x11=>OX (AU x6 x11 (.b false)) fun x12=>Post x12 S2
def i31:I2 31 s31:=Oc d31
end Go.Proofs.YtjniafcnjbbomaaGreatDoor.DE
namespace Go.Proofs.YtjniafcnjbbomaaGreatDoor.DE.V
open Go NL
def eQ(n1 n2:Bool)(a b:List Nat):D:=.agg [AD n1 a .ro,AD n2 b .ro]
@[simp] theorem noRef_eQ(n1 n2:Bool)(a b:List Nat):AG (eQ n1 n2 a b)=true:=by simp[eQ,AG,A9]
@[simp] theorem strip_eQ(n1 n2:Bool)(a b:List Nat):strip (eQ n1 n2 a b)=eQ n1 n2 a b:=(rfl)
@[simp] theorem cells_eQ(n1 n2:Bool)(a b:List Nat):Am 2 true (eQ n1 n2 a b)=some [AD n1 a .ro,AD n2 b .ro]:=(rfl)
theorem SC:B8 [.sl 1 true [] .ro,.sl 1 true [] .ro] []=some [AD true [] .ro,AD true [] .ro]:=rfl
theorem ZW(n1 n2:Bool)(a b:List Nat):B8 [.sl 1 true [] .ro,.sl 1 true [] .ro] [(0,1,false,AD n1 a .ro),(1,1,false,AD n2 b .ro)]=some [AD n1 a .ro,AD n2 b .ro]:=rfl
theorem st2(S:A1)(id:Nat)(x y u v:D)(hu:BF u=true)(hv:BF v=true)(h:AA S id=some (.box [x,y])):Ax S 2 true (.bx id 0) (.agg [u,v])=some (sset S id (.box [u,v])):=by simp[h,hu,hv]
theorem st2q(S:A1)(id:Nat)(x y:D)(n1 n2:Bool)(a b:List Nat)(h:AA S id=some (.box [x,y])):Ax S 2 true (.bx id 0) (eQ n1 n2 a b)=some (sset S id (.box [AD n1 a .ro,AD n2 b .ro])):=st2 S id x y _ _ rfl rfl h
@[simp] theorem strip_q2(n1 n2:Bool)(a b:List Nat):strip (.agg [AD n1 a .ro,AD n2 b .ro])=.agg [AD n1 a .ro,AD n2 b .ro]:=(rfl)
@[simp] theorem stripT_q2(n1 n2:Bool)(a b:List Nat):Ae (.agg [AD n1 a .ro,AD n2 b .ro])=.agg [AD n1 a .ro,AD n2 b .ro]:=(rfl)
def Rq(q:Fq)(d:D):Prop:=∃n1 n2,d=eQ n1 n2 (B1 q.1) (B1 q.2)/\NF n1 (B1 q.1)/\NF n2 (B1 q.2)
theorem Rq.AG{q:Fq}{d:D}(h:Rq q d):AG d=true:=by obtain⟨n1,n2,rfl,_⟩:=h;simp
theorem Rq.strip{q:Fq}{d:D}(h:Rq q d):strip d=d:=by obtain⟨n1,n2,rfl,_⟩:=h;rfl
def RT(o:Option Fq)(e:Int)(d:D):Prop:=match o with
 |some q=>∃dq,d=.AY [dq,.i .i64 0]/\Rq q dq
 |none=>d=.AY [eQ true true [] [],.i .i64 e]
theorem RT.AG{o:Option Fq}{e:Int}{d:D}(h:RT o e d):AG d=true:=by
 cases o with
 |none=>simp only[RT] at h;subst h;simp[DE.AG,A9]
 |some q=>obtain⟨dq,rfl,hq⟩:=h;simp[DE.AG,A9,hq.AG]
def VR(a b:List Nat):Prop:=((VN a/\VN b)/\0<b.length)/\Nat.gcd (val a) (val b)=1
open Classical in
theorem v53(n1 n2:Bool)(a b:List Nat)(la:CA a)(lb:CA b)(f1:NF n1 a)(f2:NF n2 b)(ba:Bd a.length)(bb:Bd b.length) :
  A0 (call dp) 53 [eQ n1 n2 a b]=some (.b (decide (VR a b))):=by
 apply i53 _ _ (by simp[A9]) rfl;have u53:=v83 (n:=1) (by decide);rw[show((1:Nat):Int)=1 from rfl] at u53;by_cases h1:VN a
 .by_cases h2:VN b
  .by_cases h3:0<b.length
   .have ea:=MR (h1.can la);have eb:=MR (h2.can lb);obtain⟨n,e,f⟩:=v107 n1 n2 (val a) (val b) (by rw[Em,ea];exact h1.1) (by rw[Em,eb];exact h2.1) (by rw[ea];exact f1) (by rw[eb];exact f2);rw[ea,eb] at e
    have hg:(B1 (Nat.gcd (val a) (val b))).length<=128:=by have:Nat.gcd (val a) (val b)<=val b:=Nat.gcd_le_right _ (Can.pos (h2.can lb) (by rintro rfl;simp at h3));have h5:=len_lt this;rw[eb] at h5;have:=h2.1;omega
    have e6:=v106 n false (B1 (Nat.gcd (val a) (val b))) (B1 1) (by unfold Bd;omega);have hi:(B1 (Nat.gcd (val a) (val b))=B1 1)=(Nat.gcd (val a) (val b)=1):=propext ⟨gu,fun h=>by rw[h]⟩;simp[s53,v105 n1 a ba,v105 n2 b bb,h1,h2,h3,VR,u53,e,e6,hi]
   .have hb:b=[]:=by
     cases b with
     |nil=>rfl
     |cons x t=>simp at h3
    subst hb;simp[s53,v105 n1 a ba,v105 n2 [] bb,h1,h2,VR]
  .simp[s53,v105 n1 a ba,v105 n2 b bb,h1,h2,VR]
 .simp[s53,v105 n1 a ba,h1,VR]
theorem pU{q:Fq}(h:VQ q):VR (B1 q.1) (B1 q.2):=by refine⟨⟨⟨Cr.2 h.f1,Cr.2 h.f2⟩,?_⟩,by rw[CB,CB];exact h.gcd⟩;have:=h.pos;exact List.length_pos_iff.2 fun e=>by have:=Mp.1 e;omega
theorem VQ_of{a b:List Nat}(la:CA a)(lb:CA b)(h:VR a b):VQ (val a,val b)/\a=B1 (val a)/\b=B1 (val b):=by
 have ea:=MR (h.1.1.1.can la);have eb:=MR (h.1.1.2.can lb);refine⟨⟨Can.pos (h.1.1.2.can lb) (by rintro rfl;have:=h.1.2;simp at this),h.2,?_,?_⟩,ea.symm,eb.symm⟩
 .rw[Em];simp only[ea];exact h.1.1.1.1
 .rw[Em];simp only[eb];exact h.1.1.2.1
theorem M0{x:Nat}(h:BO x):Bd (B1 x).length:=by have:=(Em x).1 h;unfold Bd;omega
theorem sS{q:Fq}{d:D}(h:Rq q d)(k:VQ q):A0 (call dp) 53 [d]=some (.b true):=by obtain⟨n1,n2,rfl,f1,f2⟩:=h;rw[v53 n1 n2 _ _ (CS _) (CS _) f1 f2 (M0 k.f1) (M0 k.f2)];simp[pU k]
theorem v71(n1 n2:Bool)(x y:Nat)(hx:BO x)(hy:BO y)(h0:y≠0)(f1:NF n1 (B1 x))(f2:NF n2 (B1 y)) :
  ∃r,A0 (call dp) 71 [AD n1 (B1 x) .ro,AD n2 (B1 y) .ro]=some r/\RT (some (red x y)) 0 r:=by
 apply j71 _ _ _ (by simp[A9]) (fun r h=>h.AG);have CF:B1 y≠[]:=fun e=>h0 (Mp.1 e);have hl:(B1 y).length≠0:=by simpa using CF
 obtain⟨n,e,f⟩:=v107 n1 n2 x y hx hy f1 f2;have hg:0<Nat.gcd x y:=Nat.gcd_pos_of_pos_right _ (by omega);have hgl:BO (Nat.gcd x y):=Nat.lt_of_le_of_lt (Nat.gcd_le_right _ (by omega)) hy;obtain⟨m1,m2,e1,g1,g2⟩:=pO n1 n x (Nat.gcd x y) hx hgl f1 (by omega);obtain⟨m3,m4,e2,g3,g4⟩:=pO n2 n y (Nat.gcd x y) hy hgl f2 (by omega);simp[s71,v105 n1 _ (M0 hx),v105 n2 _ (M0 hy),Cr.2 hx,Cr.2 hy,CF,e,e1,e2,ZW,st2,CE];exact⟨_,rfl,m1,m3,rfl,g1,g3⟩
abbrev Pr:=Bool×Nat×Bool×Nat
def wu(p:Pr):List D:=[AD p.1 (B1 p.2.1) .ro,AD p.2.2.1 (B1 p.2.2.2) .ro]
def pPr(p:Pr):List D:=[AD false (B1 (p.2.1*p.2.2.2)) .ro]
def Ap2(out:List (List D))(d:D)(S:A1):Prop:=(out=[]/\d=.sl 1 true [] .ro)\/(out≠[]/\∃t,d=.sl 1 false out (.tok t)/\AA S t=some (.tok true))
theorem Ap2.app{out:List (List D)}{d:D}{S:A1}(h:Ap2 out d S)(x:List D)(hl:out.length<=1000):∃d' S',Be 1 false d (.sl 1 false [x] .ro) S=some (d',S')/\Ap2 (out++[x]) d' S':=by
 rcases h with⟨rfl,rfl⟩|⟨_,t,rfl,hs⟩
 .exact⟨_,_,iD _ (by unfold AP;simp) (fun t h=>by cases h),.inr ⟨by simp,_,rfl,Aj _ _⟩⟩
 .refine⟨_,_,Mr _ (by unfold AP;simp;omega) hs,.inr ⟨by simp,List.length S,rfl,?_⟩⟩;rw[<-BR (B9.tok false) S t];exact Aj _ _
theorem Ap2.push{out:List (List D)}{d:D}{S:A1}(h:Ap2 out d S)(e:B9):Ap2 out d (e::S):=by
 rcases h with h|⟨h,t,h1,h2⟩
 .exact .inl h
 .exact .inr ⟨h,t,h1,AM h2⟩
theorem Ap2.strip{out:List (List D)}{d:D}{S:A1}(h:Ap2 out d S):strip d=.sl 1 out.isEmpty out .ro:=by
 rcases h with⟨rfl,rfl⟩|⟨h,t,rfl,_⟩
 .rfl
 .have:out.isEmpty=false:=by simpa using h
  rw[this];rfl
theorem iaa0(id:Nat):nO 2 1 (.bx id 0) (.i .i64 0)=some (.bx id 0):=rfl
theorem iaa1(id:Nat):nO 2 1 (.bx id 0) (.i .i64 1)=some (.bx id 1):=rfl
def J79(ps:List Pr):Nat->List D->A1->Prop:=fun q fr S=>∃i a2 a3 a4 a12,q=ps.length-i/\i<=ps.length/\Ap2 ((ps.take i).map pPr) a4 S/\(∀p,p∈ps.take i->BO (p.2.1*p.2.2.2)) /\
 fr=B0 31 [(2,a2),(3,a3),(4,a4),(9,.sl 2 false (ps.map wu) .ro),(10,.i .i64 ps.length),(11,.i .i64 i),(12,a12)]
theorem QY:∀ps:List Pr,Bo (ps.map pPr)=true
 |[]=>rfl
 |p::ps=>by simp[Bo,pPr,A9,QY ps]
theorem QN:∀ps:List Pr,Bo (ps.map wu)=true
 |[]=>rfl
 |p::ps=>by simp[Bo,wu,A9,QN ps]
theorem v79(ps:List Pr)(hl:ps.length<=10)(Bg:∀p,p∈ps->BO p.2.1/\BO p.2.2.2) :
  A0 (call dp) 79 [.sl 2 false (ps.map wu) .ro]=some (if ∀p,p∈ps->BO (p.2.1*p.2.2.2) then .AY [.sl 1 (ps.map pPr).isEmpty (ps.map pPr) .ro,.b true] else .AY [.sl 1 true [] .ro,.b false]):=by
 have Er:strip (.sl 2 false (ps.map wu) .ro)=.sl 2 false (ps.map wu) .ro:=rfl;apply i79 _ _ (by simp[Er,A9,AG,QN]) (by split<;>simp[AG,A9,Bo,QY]);simp only[s79,Er,kC,length_map,A5];generalize hR:QS (call dp) XQ _=R;refine AW (J79 ps) ?_ ps.length _ _ ⟨0,.top,.top,_,.top,by omega,by omega,.inl ⟨rfl,rfl⟩,fun p hp=>by simp at hp,rfl⟩;rintro q fr S ⟨i,a2,a3,a4,a12,rfl,hi,hap,U6,rfl⟩;rw[<-Ay,e79_0];by_cases Ap:i<ps.length
 .obtain⟨p,hp⟩:∃p,ps[i]? = some p:=⟨ps[i],gA Ap⟩
  have UY:=gC hp;obtain⟨k1,k2⟩:=Bg p UY
  have ak:Ak 2 (.sl 2 false (ps.map wu) .ro) (.i .i64 (i:Int))=some (.el (wu p) 0):=by simp[Ak,hp]
  have hld:AE S 2 true (.el (wu p) 0)=some (eQ p.1 p.2.2.1 (B1 p.2.1) (B1 p.2.2.2)):=rfl;have hst2:=st2q (B9.box [.sl 1 true [] .ro,.sl 1 true [] .ro]::S) S.length (.sl 1 true [] .ro) (.sl 1 true [] .ro) p.1 p.2.2.1 (B1 p.2.1) (B1 p.2.2.2) (Aj _ _);rw[ZH] at hst2
  have YD:AE (B9.box [AD p.1 (B1 p.2.1) .ro,AD p.2.2.1 (B1 p.2.2.2) .ro]::S) 1 false (.bx S.length 0)=some (AD p.1 (B1 p.2.1) .ro):=by rw[GH,Aj];rfl
  have pE:AE (B9.box [AD p.1 (B1 p.2.1) .ro,AD p.2.2.1 (B1 p.2.2.2) .ro]::S) 1 false (.bx S.length 1)=some (AD p.2.2.1 (B1 p.2.2.2) .ro):=by rw[GH,Aj];rfl
  have h70:=v70 p.1 p.2.2.1 (B1 p.2.1) (B1 p.2.2.2) (Cr.2 k1) (Cr.2 k2) (CS _) (CS _);rw[CB,CB] at h70;simp only[rB,BH,Ap,decide_true,Ka,Al,ak,A5,hld,HY,hst2,iaa0,iaa1,YD,pE,h70];have htk:ps.take (i+1)=ps.take i++[p]:=BV hp;by_cases hf:BO (p.2.1*p.2.2.2)
  .have Cv:AV 1 false [AD false (B1 (p.2.1*p.2.2.2)) .ro]=some [pPr p]:=rfl;obtain⟨d',S',e1,hap'⟩:=(hap.push (B9.box [AD p.1 (B1 p.2.1) .ro,AD p.2.2.1 (B1 p.2.2.2) .ro])).app (pPr p) (by simp;omega);have CF:A4 .neq .num (.i .i64 0) (.i .i64 0)=some (.b false):=by rw[JA];rfl
   simp only[hf,if_true,CX,getElem?_cons_zero,getElem?_cons_succ,A5,CF,Ac,Cv,e1,CG (show Bd i by unfold Bd;omega),Ao];refine⟨ps.length-(i+1),by omega,i+1,a2,a3,d',.top,rfl,by omega,?_,?_,rfl⟩
   .rw[htk,map_append];exact hap'
   .intro p' aX;rw[htk] at aX;rcases List.mem_append.1 aX with h|h
    .exact U6 p' h
    .rw[List.mem_singleton.1 h];exact hf
  .have CF:A4 .neq .num (.i .i64 6) (.i .i64 0)=some (.b true):=by rw[JA];rfl
   have hna:¬∀p,p∈ps->BO (p.2.1*p.2.2.2):=fun h=>hf (h p UY);simp only[hf,if_false,CX,getElem?_cons_zero,getElem?_cons_succ,A5,CF,Al,Ja,Jb];rw[<-hR,PQ,V6,if_neg hna];rfl
 .have:i=ps.length:=by omega
  subst this;rw[take_length] at U6 hap;simp only[rB,BH,Ap,decide_false,Km,Ac,BC,Av];rw[<-hR];simp only[Ad,e79_r0,si];rw[V6,if_pos U6];show D.AY [strip a4,.b true]=_;rw[hap.strip]
theorem v29(a b:Fq)(da db:D)(ha:Rq a da)(hb:Rq b db)(va:VQ a)(vb:VQ b):∃r,A0 (call dp) 29 [da,db]=some r/\RT (Gn a b) 6 r:=by
 have e1:=sS ha va;have e2:=sS hb vb;obtain⟨n1,n2,rfl,f1,f2⟩:=ha;obtain⟨m1,m2,rfl,g1,g2⟩:=hb;apply j29 _ _ _ (by simp[A9]) (fun r h=>h.AG)
 have h79:=v79 [(n1,a.1,m1,b.1),(n2,a.2,m2,b.2)] (by simp) (by
  intro p hp;simp at hp;rcases hp with rfl|rfl
  .exact⟨va.f1,vb.f1⟩
  .exact⟨va.f2,vb.f2⟩)
 simp only[map_cons,map_nil,wu,pPr,List.isEmpty_cons] at h79;have hc:AV 2 true [.agg [AD n1 (B1 a.1) .ro,AD m1 (B1 b.1) .ro],.agg [AD n2 (B1 a.2) .ro,AD m2 (B1 b.2) .ro]]=some [[AD n1 (B1 a.1) .ro,AD m1 (B1 b.1) .ro],[AD n2 (B1 a.2) .ro,AD m2 (B1 b.2) .ro]]:=rfl;by_cases hf:BO (a.1*b.1)/\BO (a.2*b.2)
 .have KQ:∀p:Pr,p∈[(n1,a.1,m1,b.1),(n2,a.2,m2,b.2)]->BO (p.2.1*p.2.2.2):=by
   intro p hp;simp at hp;rcases hp with rfl|rfl
   .exact hf.1
   .exact hf.2
  rw[if_pos KQ] at h79;obtain⟨r,e3,hr⟩:=v71 false false _ _ hf.1 hf.2 (by have:=Nat.mul_pos va.pos vb.pos;omega) (fun h=>by cases h) (fun h=>by cases h);obtain⟨dq,rfl,k1,k2,rfl,k3,k4⟩:=hr;have hp:Gn a b=some (red (a.1*b.1) (a.2*b.2)):=if_pos hf;have hz:Ak 1 (.sl 1 false [[AD false (B1 (a.1*b.1)) .ro],[AD false (B1 (a.2*b.2)) .ro]] .ro) (.i .i64 0)=some (.el [AD false (B1 (a.1*b.1)) .ro] 0):=rfl;have ho:Ak 1 (.sl 1 false [[AD false (B1 (a.1*b.1)) .ro],[AD false (B1 (a.2*b.2)) .ro]] .ro) (.i .i64 1)=some (.el [AD false (B1 (a.2*b.2)) .ro] 0):=rfl;simp only[eQ] at e1 e2 e3;simp[s29,e1,e2,ZW,hc,h79,hz,ho,e3,st2,CE,hp,eQ];exact⟨_,rfl,k1,k2,rfl,k3,k4⟩
 .have KQ:¬∀p:Pr,p∈[(n1,a.1,m1,b.1),(n2,a.2,m2,b.2)]->BO (p.2.1*p.2.2.2):=by intro h;exact hf ⟨h (n1,a.1,m1,b.1) (by simp),h (n2,a.2,m2,b.2) (by simp)⟩
  rw[if_neg KQ] at h79;have hp:Gn a b=none:=if_neg hf;simp only[eQ] at e1 e2;simp[s29,e1,e2,ZW,SC,hc,h79,st2,CE,hp,RT,eQ]
theorem v27(a b:Fq)(da db:D)(ha:Rq a da)(hb:Rq b db)(va:VQ a)(vb:VQ b):∃r,A0 (call dp) 27 [da,db]=some r/\RT (Mw a b) 6 r:=by
 have e1:=sS ha va;have e2:=sS hb vb;obtain⟨n1,n2,rfl,f1,f2⟩:=ha;obtain⟨m1,m2,rfl,g1,g2⟩:=hb;apply j27 _ _ _ (by simp[A9]) (fun r h=>h.AG)
 have h79:=v79 [(n1,a.1,m2,b.2),(m1,b.1,n2,a.2),(n2,a.2,m2,b.2)] (by simp) (by
  intro p hp;simp at hp;rcases hp with rfl|rfl|rfl
  .exact⟨va.f1,vb.f2⟩
  .exact⟨vb.f1,va.f2⟩
  .exact⟨va.f2,vb.f2⟩)
 simp only[map_cons,map_nil,wu,pPr,List.isEmpty_cons] at h79;have hc:AV 2 true [.agg [AD n1 (B1 a.1) .ro,AD m2 (B1 b.2) .ro],.agg [AD m1 (B1 b.1) .ro,AD n2 (B1 a.2) .ro],.agg [AD n2 (B1 a.2) .ro,AD m2 (B1 b.2) .ro]]=some [[AD n1 (B1 a.1) .ro,AD m2 (B1 b.2) .ro],[AD m1 (B1 b.1) .ro,AD n2 (B1 a.2) .ro],[AD n2 (B1 a.2) .ro,AD m2 (B1 b.2) .ro]]:=rfl;by_cases hf:BO (a.1*b.2)/\BO (b.1*a.2)/\BO (a.2*b.2)
 .have KQ:∀p:Pr,p∈[(n1,a.1,m2,b.2),(m1,b.1,n2,a.2),(n2,a.2,m2,b.2)]->BO (p.2.1*p.2.2.2):=by
   intro p hp;simp at hp;rcases hp with rfl|rfl|rfl
   .exact hf.1
   .exact hf.2.1
   .exact hf.2.2
  rw[if_pos KQ] at h79;have h80:=v80 false false (B1 (a.1*b.2)) (B1 (b.1*a.2)) (Cr.2 hf.1) (Cr.2 hf.2.1) (CS _) (CS _);rw[CB,CB] at h80;have hz:∀x y z:D,Ak 1 (.sl 1 false [[x],[y],[z]] .ro) (.i .i64 0)=some (.el [x] 0):=fun _ _ _=>rfl;have ho:∀x y z:D,Ak 1 (.sl 1 false [[x],[y],[z]] .ro) (.i .i64 1)=some (.el [y] 0):=fun _ _ _=>rfl;have ht:∀x y z:D,Ak 1 (.sl 1 false [[x],[y],[z]] .ro) (.i .i64 2)=some (.el [z] 0):=fun _ _ _=>rfl;by_cases hs:BO (a.1*b.2+b.1*a.2)
  .rw[if_pos hs] at h80;obtain⟨r,e3,hr⟩:=v71 false false _ _ hs hf.2.2 (by have:=Nat.mul_pos va.pos vb.pos;omega) (fun h=>by cases h) (fun h=>by cases h);obtain⟨dq,rfl,k1,k2,rfl,k3,k4⟩:=hr;have hp:Mw a b=some (red (a.1*b.2+b.1*a.2) (a.2*b.2)):=if_pos ⟨hf,hs⟩;simp only[eQ] at e1 e2 e3;simp[s27,e1,e2,ZW,hc,h79,hz,ho,ht,h80,e3,st2,CE,hp,eQ];exact⟨_,rfl,k1,k2,rfl,k3,k4⟩
  .rw[if_neg hs] at h80;have hp:Mw a b=none:=if_neg fun h=>hs h.2;simp only[eQ] at e1 e2;simp[s27,e1,e2,ZW,SC,hc,h79,hz,ho,h80,st2,CE,hp,RT,eQ]
 .have KQ:¬∀p:Pr,p∈[(n1,a.1,m2,b.2),(m1,b.1,n2,a.2),(n2,a.2,m2,b.2)]->BO (p.2.1*p.2.2.2):=by intro h;exact hf ⟨h (n1,a.1,m2,b.2) (by simp),h (m1,b.1,n2,a.2) (by simp),h (n2,a.2,m2,b.2) (by simp)⟩
  rw[if_neg KQ] at h79;have hp:Mw a b=none:=if_neg fun h=>hf h.1;simp only[eQ] at e1 e2;simp[s27,e1,e2,ZW,SC,hc,h79,st2,CE,hp,RT,eQ]
theorem v95(a:Fq)(da:D)(ha:Rq a da)(va:VQ a)(hle:a.1<=a.2):∃r,A0 (call dp) 95 [da]=some r/\RT (some (CQ a)) 0 r:=by have e1:=sS ha va;obtain⟨n1,n2,rfl,f1,f2⟩:=ha;apply j95 _ _ (by simp[A9]) (fun r h=>h.AG);have h161:=v161 n2 n1 (B1 a.2) (B1 a.1) (Cr.2 va.f2) (Cr.2 va.f1) (CS _) (CS _);rw[CB,CB,if_pos hle] at h161;obtain⟨r,e3,hr⟩:=v71 false n2 (a.2-a.1) a.2 (Nat.lt_of_le_of_lt (Nat.sub_le _ _) va.f2) va.f2 (by have:=va.pos;omega) (fun h=>by cases h) f2;rw[mh va hle] at hr;obtain⟨dq,rfl,k1,k2,rfl,k3,k4⟩:=hr;simp only[eQ] at e1 e3;simp[s95,e1,h161,e3,st2,CE,eQ];exact⟨_,rfl,k1,k2,rfl,k3,k4⟩
open Classical in
theorem v30(n1 n2:Bool)(a b:List Nat)(la:CA a)(lb:CA b)(f1:NF n1 a)(f2:NF n2 b)(ba:Bd a.length)(bb:Bd b.length) :
  A0 (call dp) 30 [eQ n1 n2 a b]=some (.b (decide (VR a b/\val a<=val b))):=by
 have e1:=v53 n1 n2 a b la lb f1 f2 ba bb;apply i30 _ _ (by simp[A9]) rfl
 have K9:A4 .leq .num (.i .i64 (bS (val a) (val b))) (.i .i64 0)=some (.b (decide (val a<=val b))):=by
  rw[RX];congr 2;unfold bS;by_cases h:val a<val b
  .rw[if_pos h];simp;omega
  .rw[if_neg h];by_cases h':val a=val b
   .rw[if_pos h'];simp;omega
   .rw[if_neg h'];simp;omega
 by_cases h:VR a b
 .have h82:=v82 n1 n2 a b h.1.1.1 h.1.1.2 la lb;simp only[eQ] at e1;simp[s30,e1,h,h82,K9,eQ]
 .simp only[eQ] at e1;simp[s30,e1,h,eQ]
theorem v81{x:Nat}(h:x<18446744073709551616):A0 (call dp) 81 [.i .u64 x]=some (eQ false false (B1 x) (B1 1)):=by apply i81 _ _ (by simp[A9]) (by simp);have h1:=v83 h;have h2:=v83 (n:=1) (by decide);rw[show((1:Nat):Int)=1 from rfl] at h2;simp[s81,h1,h2,ZW,st2,CE,eQ]
theorem v28:A0 (call dp) 28 []=some (eQ false false (B1 1) (B1 1)):=by apply i28 _ (by simp[A9]) (by simp);have h2:=v81 (x:=1) (by decide);rw[show((1:Nat):Int)=1 from rfl] at h2;simp only[eQ] at h2;simp[s28,h2,st2,CE,eQ]
theorem v39:A0 (call dp) 39 []=some (eQ false false (B1 0) (B1 1)):=by apply i39 _ (by simp[A9]) (by simp);have h2:=v81 (x:=0) (by decide);rw[show((0:Nat):Int)=0 from rfl] at h2;simp only[eQ] at h2;simp[s39,h2,st2,CE,eQ]
def J57(nl B3:Bool)(a b:List Nat):Nat->List D->A1->Prop:=fun q fr S=>∃i a4 a14,q=b.length-i/\i<=b.length/\a.take i=b.take i/\S=[] /\
 fr=B0 26 [(0,AD nl a .ro),(1,AD B3 b .ro),(4,a4),(5,.i .i64 i),(14,a14)]
theorem v57(nl B3:Bool)(a b:List Nat)(ha:Bd a.length):A0 (call dp) 57 [AD nl a .ro,AD B3 b .ro]=some (.b (decide (a=b))):=by
 apply i57 _ _ _ (by simp[A9]) rfl;simp only[s57,Bh,B2,A5,jX];by_cases hl:a.length=b.length
 .have hd:(!decide (a.length=b.length))=false:=by simp[hl]
  simp only[hd,Ac];generalize hR:QS (call dp) WH _=R;refine AW (J57 nl B3 a b) ?_ b.length _ _ ⟨0,.top,.top,by omega,by omega,by simp,rfl,rfl⟩;rintro q fr S ⟨i,a4,a14,rfl,hi,he,rfl,rfl⟩;rw[<-Ay,e57_0];by_cases Ap:i<b.length
  .simp only[ta,B2,A5,BH,hl,Ap,decide_true,Al,Bt Ap,Bt (show i<a.length by omega),Jg,jX];by_cases hd:dg a i=dg b i
   .simp only[hd,decide_true,Bool.not_true,Ac,CG (show Bd i by unfold Bd at *;omega),A5,Ao];exact⟨b.length-(i+1),by omega,i+1,a4,.top,rfl,by omega,Md he (Jk (by omega)) (by rw[hd];exact Jk Ap),rfl,rfl⟩
   .have CF:¬a=b:=by rintro rfl;exact hd rfl
    simp only[hd,decide_false,Bool.not_false,Al,Ja,Jb];rw[<-hR,PQ,Cb,decide_eq_false CF];rfl
  .have:a=b:=Mc he (by omega) (by omega);subst this;simp only[ta,B2,A5,BH,Ap,decide_false,Ac,BC,Av];rw[<-hR];simp only[Ad,e57_r0,sf];rw[Cb];simp
 .have hd:(!decide (a.length=b.length))=true:=by simp[hl]
  have CF:¬a=b:=by rintro rfl;exact hl rfl
  simp only[hd,Al,CF,decide_false,KS]
theorem v16(n1 n2 m1 m2:Bool)(a b c d:List Nat)(ha:Bd a.length)(hb:Bd b.length):A0 (call dp) 16 [eQ n1 n2 a b,eQ m1 m2 c d]=some (.b (decide (a=c/\b=d))):=by
 apply i16 _ _ _ (by simp[A9]) rfl;by_cases h1:a=c
 .subst h1;simp[s16,v57 n1 m1 a a ha,v57 n2 m2 b d hb]
 .simp[s16,v57 n1 m1 a c ha,h1]
theorem v31(n1 n2:Bool)(a b:List Nat)(k:Nat):A0 (call dp) 31 [eQ n1 n2 a b,.i .i64 k]=some (.b (decide (a.length<=k/\b.length<=k))):=by
 apply i31 _ _ _ (by simp[A9]) rfl;have hle:∀x y:Nat,A4 .leq .num (.i .i64 x) (.i .i64 y)=some (.b (decide (x<=y))):=fun x y=>by rw[RX];simp
 by_cases h1:a.length<=k
 .simp[s31,h1]
 .simp[s31,h1]
end Go.Proofs.YtjniafcnjbbomaaGreatDoor.DE.V
namespace Go.Proofs.YtjniafcnjbbomaaGreatDoor.DE
section
open Go
variable (cf:AQ)(a0 a1 a2 a3 a4 a5 a6 a7 a25 a26 a27 a28:D)(S:A1)(Q:QT)(Post:PT)
def s52:EV:=fun cf a0 S Post=>Cg 2 true a0 S fun x1 S2=>OX (AO 0 x1) fun x3=>OX (AE S2 1 false x3) fun x4=>OX (A4 .geq .num x4 (.n 1)) fun x5=>OX (A8 x5 true (AO 1 x1)) fun x6=>OX (A8 x5 true (AE S2 1 false x6)) fun x7=>OX (A8 x5 true (A4 .geq .num x7 (.n 1))) fun x8=>OX (AU x5 x8 (.b false)) fun x9=>Post x9 S2
def i52:I1 52 s52:=JF d52
abbrev m14(a2 a3 a7 a8 a9 a10:D):List D:=B0 39 [(2,a2),(3,a3),(7,a7),(8,a8),(9,a9),(10,a10)]
def rL:Mi:=fun cf a2 a3 a7 a8 a9 a10 S Q=>Q .ret (m14 (.b true) .top .top .top .top .top) S
def e14_r0:N6 Vz m14 rL:=bK
def tW:Mi:=fun cf a2 a3 a7 a8 a9 a10 S Q=>OX (A4 .lss .num a9 a8) fun x1=>WB x1
 (OX (Ak 4 a7 a9) fun x2=>OX (AE S 4 true x2) fun x3=>al [.n 0,.n 0,.z 1,.z 1] S fun x4 S5=>OX (Ax S5 4 true x4 x3) fun S7=>OX (AO 0 x4) fun x8=>OX (AE S7 2 true x8) fun x9=>OX (A0 cf 52 [x9]) fun x10=>OX (ES .not x10) fun x11=>OX (A8 x11 false (AO 2 x4)) fun x12=>OX (A8 x11 false (AE S7 2 true x12)) fun x13=>OX (A8 x11 false (A0 cf 53 [x13])) fun x14=>OX (A8 x11 false (ES .not x14)) fun x15=>OX (AU x11 (.b true) x15) fun x16=>OX (A8 x16 false (AO 2 x4)) fun x17=>OX (A8 x16 false (AE S7 2 true x17)) fun x18=>OX (A8 x16 false (A0 cf 30 [x18])) fun x19=>OX (A8 x16 false (ES .not x19)) fun x20=>OX (AU x16 (.b true) x20) fun x21=>OX (A8 x21 false (some a3)) fun x22=>OX (A8 x21 false (AO 0 x4)) fun x23=>OX (A8 x21 false (AE S7 2 true x23)) fun x24=>OX (A8 x21 false (ON (.agg [.i,.i]) false (.b false) S7 x22 x24)) fun x25=>OX (AU x21 (.b true) x25) fun x26=>WB x26
 (Q .ret (m14 (.b false) .top .top .top .top .top) S7)
 (OX (AO 0 x4) fun x27=>OX (AE S7 2 true x27) fun x28=>OX (O8 (.agg [.i,.i]) S7 a3 x28 (.b true)) fun S30=>OX (A4 .add .num a9 (.n 1)) fun x31=>Q .normal (m14 a2 a3 a7 a8 x31 .top) S30))
 (Q (.exit 0) (m14 a2 a3 a7 a8 a9 x1) S)
def e14_0:L6 wj m14 tW:=bu
def s14:EV:=fun cf a0 S Post=>mm S fun x32 S33=>OX (AK false a0) fun x34=>W cf (.loop [] wj) (m14 .top x32 a0 x34 (.n 0) .top) S33 (Af 0 (QS cf Vz (Aw [.t 2] Post)))
def e14:E1 d14 s14:=Uf
def i14:I1 14 s14:=JF d14 (e:=e14)
def s17:Cn:=fun cf a0 a1 S Post=>Cg 2 true a0 S fun x1 S2=>al [.z 1,.z 1] S2 fun x3 S4=>OX (cf 58 [a1,(.fn 59 [x1])] S4) fun p6=>OX (A4 .lss .num p6.1 (.n 0)) fun x7=>WB x7
 (OX (A0 cf 28 []) fun x8=>OX (Ax p6.2 2 true x3 x8) fun S10=>OX (CE S10 2 true x3) fun x11=>Post x11 S10)
 (OX (Ak 4 a1 p6.1) fun x12=>OX (AO 2 x12) fun x13=>OX (AE p6.2 2 true x13) fun x14=>OX (A0 cf 60 [x14]) fun x15=>OX (Ax p6.2 2 true x3 x15) fun S17=>OX (CE S17 2 true x3) fun x18=>Post x18 S17)
def i17:I2 17 s17:=Oc d17
def s59:Cn:=fun cf a0 a1 S Post=>Cg 4 true a0 S fun x1 S2=>OX (AO 0 x1) fun x3=>OX (AE S2 2 true x3) fun x4=>OX (AE S2 2 true a1) fun x5=>OX (A4 .eql (.agg [.i,.i]) x4 x5) fun x6=>Post x6 S2
def f59:F2 59 s59:=eR d59
abbrev m58(a0 a1 a4 a7 a8 a9:D):List D:=B0 19 [(0,a0),(1,a1),(4,a4),(7,a7),(8,a8),(9,a9)]
def rD:Mi:=fun cf a0 a1 a4 a7 a8 a9 S Q=>Q .ret (m58 .top .top (.n (-1)) .top .top .top) S
def e58_r0:N6 Xy m58 rD:=bK
def tO:Mi:=fun cf a0 a1 a4 a7 a8 a9 S Q=>OX (A4 .lss .num a8 a7) fun x1=>WB x1
 (OX (Ak 4 a0 a8) fun x2=>OX (AE S 4 true x2) fun x3=>OX (NT a1) fun q5=>OX (cf q5.1 ([x3]++q5.2) S) fun p6=>WB p6.1
 (Q .ret (m58 .top .top a8 .top .top .top) p6.2)
 (OX (A4 .add .num a8 (.n 1)) fun x7=>Q .normal (m58 a0 a1 a4 a7 x7 .top) p6.2))
 (Q (.exit 0) (m58 a0 a1 a4 a7 a8 x1) S)
def e58_0:L6 wC m58 tO:=bu
def s58:Cn:=fun cf a0 a1 S Post=>OX (AK false a0) fun x8=>W cf (.loop [] wC) (m58 a0 a1 .top x8 (.n 0) .top) S (Af 0 (QS cf Xy (Aw [.t 4] Post)))
def f58:F2 58 s58:=eR d58
def s60:EV:=fun cf a0 S Post=>Cg 2 true a0 S fun x1 S2=>al [.z 1,.z 1] S2 fun x3 S4=>OX (AO 0 x1) fun x5=>OX (AE S4 1 false x5) fun x6=>OX (A0 cf 110 [x6]) fun x7=>OX (AO 1 x1) fun x8=>OX (AE S4 1 false x8) fun x9=>OX (A0 cf 110 [x9]) fun x10=>OX (B8 [.z 1,.z 1] [(0,1,false,x7),(1,1,false,x10)]) fun x11=>OX (Ax S4 2 true x3 (.agg x11)) fun S13=>OX (CE S13 2 true x3) fun x14=>Post x14 S13
def i60:I1 60 s60:=JF d60
abbrev m7(a0 a2 a3 a7:D):List D:=B0 20 [(0,a0),(2,a2),(3,a3),(7,a7)]
def s7_r0:TQ4:=fun cf a0 a2 a3 a7 S Q=>OX (AK false a0) fun x1=>OX (A4 .leq .num x1 (.n 8)) fun x2=>Q .ret (m7 .top x2 .top .top) S
theorem e7_r0:wp cf gT (m7 a0 a2 a3 a7) S Q=s7_r0 cf a0 a2 a3 a7 S Q:=B4 (by kernel_rfl)
def s7_0:TQ4:=fun cf a0 a2 a3 a7 S Q=>OX (AK false a0) fun x3=>OX (A4 .lss .num a3 x3) fun x4=>WB x4
 (OX (Ak 4 a0 a3) fun x5=>OX (AO 2 x5) fun x6=>OX (AE S 2 true x6) fun x7=>OX (A0 cf 31 [x7,(.n 4)]) fun x8=>OX (ES .not x8) fun x9=>WB x9
 (Q .ret (m7 .top (.b false) .top .top) S)
 (OX (A4 .add .num a3 (.n 1)) fun x10=>Q .normal (m7 a0 a2 x10 .top) S))
 (Q (.exit 0) (m7 a0 a2 a3 x4) S)
theorem e7_0:wp cf c7_0 (B7 (m7 a0 a2 a3 a7) []) S Q=s7_0 cf a0 a2 a3 a7 S Q:=B4 (by kernel_rfl)
def s7:EV:=fun cf a0 S Post=>W cf (.loop [] c7_0) (m7 a0 .top (.n 0) .top) S (Af 0 (QS cf gT (Aw [.t 2] Post)))
def i7:I1 7 s7:=JF d7
def s48:Cn:=fun cf a0 a1 S Post=>Cg 2 true a1 S fun x1 S2=>OX (AE S2 2 true x1) fun x3=>OX (A0 cf 100 [a0,x3]) fun x4=>OX (A4 .geq .num x4 (.n 0)) fun x5=>Post x5 S2
def i48:I2 48 s48:=Oc d48
abbrev eC(a0 a3 a4 a7 a8 a9:D):List D:=B0 19 [(0,a0),(3,a3),(4,a4),(7,a7),(8,a8),(9,a9)]
def gO:Mi:=fun cf a0 a3 a4 a7 a8 a9 S Q=>Q .ret (eC .top .top (.n (-1)) .top .top .top) S
def yh:N6 Xd eC gO:=bK
def uq:Mi:=fun cf a0 a3 a4 a7 a8 a9 S Q=>OX (A4 .lss .num a8 a7) fun x1=>WB x1
 (OX (AE S 2 true a3) fun x2=>OX (Ak 2 a0 a8) fun x3=>OX (AE S 2 true x3) fun x4=>OX (A4 .eql (.agg [.i,.i]) x2 x4) fun x5=>WB x5
 (Q .ret (eC .top .top a8 .top .top .top) S)
 (OX (A4 .add .num a8 (.n 1)) fun x6=>Q .normal (eC a0 a3 a4 a7 x6 .top) S))
 (Q (.exit 0) (eC a0 a3 a4 a7 a8 x1) S)
def e100_0:L6 eV eC uq:=bu
def s100:Cn:=fun cf a0 a1 S Post=>Cg 2 true a1 S fun x7 S8=>OX (AK false a0) fun x9=>W cf (.loop [] eV) (eC a0 x7 .top x9 (.n 0) .top) S8 (Af 0 (QS cf Xd (Aw [.t 4] Post)))
def ze:E2 d100 s100:=PL
def i100:I2 100 s100:=Oc d100 (e:=ze)
def s40:Pq:=fun cf a0 a1 a2 S Post=>Cg 2 true a1 S fun x1 S2=>Cg 2 true a2 S2 fun x3 S4=>al [.z 1,.z 1] S4 fun x5 S6=>OX (AE S6 2 true x1) fun x7=>OX (AE S6 2 true x3) fun x8=>OX (cf 93 [a0,(.fn 29 []),x7,x8] S6) fun p10=>OX (Ax p10.2 2 true x5 p10.1) fun S12=>OX (CE S12 2 true x5) fun x13=>Post x13 S12
def f40:F3 40 s40:=mF3 d40
def s41:Cn:=fun cf a0 a1 S Post=>Cg 2 true a1 S fun x1 S2=>al [.z 1,.z 1] S2 fun x3 S4=>OX (AE S4 2 true x1) fun x5=>OX (A0 cf 95 [x5]) fun x6=>OX (Ag x6 0) fun x7=>OX (Ag x6 1) fun x8=>OX (cf 94 [a0,x7,x8] S4) fun p10=>OX (Ax p10.2 2 true x3 p10.1) fun S12=>OX (CE S12 2 true x3) fun x13=>Post x13 S12
def f41:F2 41 s41:=eR d41
def s42:Pq:=fun cf a0 a1 a2 S Post=>Cg 2 true a1 S fun x1 S2=>Cg 2 true a2 S2 fun x3 S4=>al [.z 1,.z 1] S4 fun x5 S6=>OX (AE S6 2 true x1) fun x7=>OX (AE S6 2 true x3) fun x8=>OX (cf 93 [a0,(.fn 27 []),x7,x8] S6) fun p10=>OX (Ax p10.2 2 true x5 p10.1) fun S12=>OX (CE S12 2 true x5) fun x13=>Post x13 S12
def f42:F3 42 s42:=mF3 d42
def s93:lX:=fun cf a0 a1 a2 a3 S Post=>Cg 2 true a2 S fun x1 S2=>Cg 2 true a3 S2 fun x3 S4=>al [.z 1,.z 1] S4 fun x5 S6=>OX (Gm a0) fun x7=>OX (AO 0 x7) fun x8=>OX (AE S6 1 false x8) fun x9=>OX (A4 .neq .num x9 (.n 0)) fun x10=>WB x10
 (OX (B8 [.z 1,.z 1] []) fun x11=>OX (Ax S6 2 true x5 (.agg x11)) fun S13=>OX (CE S13 2 true x5) fun x14=>Post x14 S13)
 (OX (AE S6 2 true x1) fun x15=>OX (AE S6 2 true x3) fun x16=>OX (NT a1) fun q18=>OX (A0 cf q18.1 ([x15,x16]++q18.2)) fun x17=>OX (Ag x17 0) fun x19=>OX (Ag x17 1) fun x20=>OX (cf 94 [a0,x19,x20] S6) fun p22=>OX (Ax p22.2 2 true x5 p22.1) fun S24=>OX (CE S24 2 true x5) fun x25=>Post x25 S24)
def f93:F4 93 s93:=mF4 d93
def s94:Pq:=fun cf a0 a1 a2 S Post=>Cg 2 true a1 S fun x1 S2=>al [.z 1,.z 1] S2 fun x3 S4=>OX (Gm a0) fun x5=>OX (AO 0 x5) fun x6=>OX (AE S4 1 false x6) fun x7=>OX (A4 .neq .num x7 (.n 0)) fun x8=>WB x8
 (OX (B8 [.z 1,.z 1] []) fun x9=>OX (Ax S4 2 true x3 (.agg x9)) fun S11=>OX (CE S11 2 true x3) fun x12=>Post x12 S11)
 (OX (Gm a0) fun x13=>OX (AO 0 x13) fun x14=>OX (Ax S4 1 false x14 a2) fun S16=>OX (AE S16 2 true x1) fun x17=>OX (Ax S16 2 true x3 x17) fun S19=>OX (CE S19 2 true x3) fun x20=>Post x20 S19)
def f94:F3 94 s94:=mF3 d94
def s43:Cn:=fun cf a0 a1 S Post=>Cg 2 true a1 S fun x1 S2=>al [.z 1,.z 1] S2 fun x3 S4=>OX (Gm a0) fun x5=>OX (AO 0 x5) fun x6=>OX (AE S4 1 false x6) fun x7=>OX (A4 .neq .num x7 (.n 0)) fun x8=>WB x8
 (OX (B8 [.z 1,.z 1] []) fun x9=>OX (Gm a0) fun x10=>OX (AO 0 x10) fun x11=>OX (AE S4 1 false x11) fun x12=>OX (Ax S4 2 true x3 (.agg x9)) fun S14=>OX (AE S14 1 false x11) fun x15=>GF x15 x12=true /\
 (OX (CE S14 2 true x3) fun x16=>Post (.AY [x16,x12]) S14))
 (OX (AE S4 2 true x1) fun x17=>OX (Ax S4 2 true x3 x17) fun S19=>OX (CE S19 2 true x3) fun x20=>Post (.AY [x20,(.n 0)]) S19)
def f43:F2 43 s43:=eR d43
abbrev m9(a1 a2 a4 a5 a6 a7 a25 a26 a27 a28:D):List D:=B0 68 [(1,a1),(2,a2),(4,a4),(5,a5),(6,a6),(7,a7),(25,a25),(26,a26),(27,a27),(28,a28)]
def s9_r0:yX:=fun cf a1 a2 a4 a5 a6 a7 a25 a26 a27 a28 S Q=>OX (AO 2 a2) fun x1=>OX (AE S 1 false x1) fun x2=>OX (Ak 2 a7 x2) fun x3=>OX (AE S 2 true x3) fun x4=>OX (cf 43 [a6,x4] S) fun p6=>OX (Ag p6.1 0) fun x7=>OX (Ag p6.1 1) fun x8=>OX (Ax p6.2 2 true a4 x7) fun S10=>Q .ret (m9 .top .top a4 x8 .top .top .top .top .top .top) S10
theorem e9_r0:wp cf hY (m9 a1 a2 a4 a5 a6 a7 a25 a26 a27 a28) S Q=s9_r0 cf a1 a2 a4 a5 a6 a7 a25 a26 a27 a28 S Q:=B4 (by kernel_rfl)
def s9_0:yX:=fun cf a1 a2 a4 a5 a6 a7 a25 a26 a27 a28 S Q=>OX (A4 .lss .num a27 a26) fun x11=>WB x11
 (OX (Ak 3 a25 a27) fun x12=>OX (AE S 3 true x12) fun x13=>al [.n 0,.n 0,.n 0] S fun x14 S15=>OX (Ax S15 3 true x14 x13) fun S17=>OX (AO 0 a2) fun x18=>OX (AE S17 1 false x18) fun x19=>OX (AO 0 x14) fun x20=>OX (AE S17 1 false x20) fun x21=>OX (Ak 2 x19 x21) fun x22=>OX (AE S17 2 true x22) fun x23=>OX (A0 cf 17 [x23,a1]) fun x24=>al [.z 1,.z 1] S17 fun x25 S26=>OX (Ax S26 2 true x25 x24) fun S28=>OX (AE S28 2 true x25) fun x29=>OX (AO 1 x14) fun x30=>OX (AE S28 1 false x30) fun x31=>OX (Ak 2 a7 x31) fun x32=>OX (AE S28 2 true x32) fun x33=>OX (cf 41 [a6,x29] S28) fun p35=>OX (AE p35.2 1 false x30) fun x36=>GF x36 x31=true /\
 (OX (AE p35.2 2 true x32) fun x37=>GF x37 x33=true /\
 (OX (cf 40 [a6,p35.1,x33] p35.2) fun p39=>al [.z 1,.z 1] p39.2 fun x40 S41=>OX (Ax S41 2 true x40 p39.1) fun S43=>OX (AE S43 2 true x40) fun x44=>OX (AE S43 2 true x25) fun x45=>OX (AO 2 x14) fun x46=>OX (AE S43 1 false x46) fun x47=>OX (Ak 2 a7 x47) fun x48=>OX (AE S43 2 true x48) fun x49=>OX (cf 40 [a6,x45,x49] S43) fun p51=>OX (AE p51.2 2 true x40) fun x52=>GF x52 x44=true /\
 (OX (cf 42 [a6,x44,p51.1] p51.2) fun p54=>OX (AV 2 true [p54.1]) fun x55=>OX (Be 2 false a7 (.sl 2 false x55 .ro) p54.2) fun p57=>OX (A4 .add .num a27 (.n 1)) fun x58=>Q .normal (m9 a1 a2 a4 a5 a6 p57.1 a25 a26 x58 .top) p57.2))))
 (Q (.exit 0) (m9 a1 a2 a4 a5 a6 a7 a25 a26 a27 x11) S)
theorem e9_0:wp cf c9_0 (B7 (m9 a1 a2 a4 a5 a6 a7 a25 a26 a27 a28) []) S Q=s9_0 cf a1 a2 a4 a5 a6 a7 a25 a26 a27 a28 S Q:=B4 (by kernel_rfl)
def s9:Cn:=fun cf a0 a1 S Post=>Cg 3 true a0 S fun x59 S60=>al [.z 1,.z 1] S60 fun x61 S62=>OX (AE S62 3 true x59) fun x63=>OX (A0 cf 38 [x63]) fun x64=>OX (ES .not x64) fun x65=>OX (A8 x65 false (some a1)) fun x66=>OX (A8 x65 false (A0 cf 14 [x66])) fun x67=>OX (A8 x65 false (ES .not x67)) fun x68=>OX (AU x65 (.b true) x68) fun x69=>WB x69
 (OX (B8 [.z 1,.z 1] []) fun x70=>OX (Ax S62 2 true x61 (.agg x70)) fun S72=>OX (CE S72 2 true x61) fun x73=>Post (.AY [x73,(.n 1)]) S72)
 (al [.n 0] S62 fun x74 S75=>OX (A0 cf 39 []) fun x76=>OX (A0 cf 28 []) fun x77=>OX (AV 2 true [x76,x77]) fun x78=>OX (AO 1 x59) fun x79=>OX (AE (HE 2 x78 S75).2 1 false x79) fun x80=>OX (AK false x80) fun x81=>W cf (.loop [] c9_0) (m9 a1 x59 x61 .top x74 ((HE 2 x78 S75).1) x80 x81 (.n 0) .top) (HE 2 x78 S75).2 (Af 0 (QS cf hY (Aw [.cell 4 2 true,.t 5] Post))))
def e9:E2 d9 s9:=PL
def j9:J2 9 s9:=UE d9 (e:=e9)
end
end Go.Proofs.YtjniafcnjbbomaaGreatDoor.DE
namespace Go.Proofs.YtjniafcnjbbomaaGreatDoor.DE.V
open Go NL
abbrev Ch:=Row×(Bool×List Nat)×(Bool×List Nat)
def UC(c:Ch):List D:=[.i .i64 c.1.1,.i .i64 c.1.2,AD c.2.1.1 c.2.1.2 .ro,AD c.2.2.1 c.2.2.2 .ro]
def Ep(nl:Bool)(l:List Ch):D:=.sl 4 nl (l.map UC) .ro
abbrev Ch.num(c:Ch):List Nat:=c.2.1.2
abbrev Ch.den(c:Ch):List Nat:=c.2.2.2
def yE(c:Ch):D:=eQ c.2.1.1 c.2.2.1 c.2.1.2 c.2.2.2
structure OkC(c:Ch):Prop where
 l1:CA c.num
 l2:CA c.den
 f1:NF c.2.1.1 c.num
 f2:NF c.2.2.1 c.den
 b1:Bd c.num.length
 b2:Bd c.den.length
def X2(l:List Ch):Prop:=∀c,c∈l->OkC c
theorem QI:∀l:List Ch,Bo (l.map UC)=true
 |[]=>rfl
 |c::l=>by simp[Bo,UC,A9,QI l]
@[simp] theorem noRef_chs(nl:Bool)(l:List Ch):AG (Ep nl l)=true:=by simp[Ep,AG,QI]
@[simp] theorem JH(nl:Bool)(l:List Ch):strip (Ep nl l)=Ep nl l:=(rfl)
@[simp] theorem Ob(nl:Bool)(l:List Ch):AK false (Ep nl l)=some (.i .i64 l.length):=by simp[Ep,AK]
theorem XP{nl:Bool}{l:List Ch}{k:IntKind}{i:Nat}{c:Ch}(h:l[i]? = some c):Ak 4 (Ep nl l) (.i k i)=some (.el (UC c) 0):=by simp[Ep,Ak,h]
theorem ld_ch(S:A1)(c:Ch):AE S 4 true (.el (UC c) 0)=some (.agg (UC c)):=(rfl)
theorem vP(S:A1)(c:Ch):AE S 2 true (.el (UC c) 2)=some (yE c):=(rfl)
theorem fa_el(cs:List D)(o p:Nat):AO o (.el cs p)=some (.el cs (p+o)):=rfl
theorem fa_bx(id o p:Nat):AO o (.bx id p)=some (.bx id (p+o)):=rfl
theorem st_ch(S:A1)(c:Ch)(x y u v:D):Ax (B9.box [x,y,u,v]::S) 4 true (.bx S.length 0) (.agg (UC c))=some (.box (UC c)::S):=by rw[Y2,Aj,aM];have:Am 4 true (.agg (UC c))=some (UC c):=rfl;rw[this];simp[UC]
theorem Nz(S:A1)(c:Ch):AE (B9.box (UC c)::S) 2 true (.bx S.length 0)=some (.agg (Ar c.1)):=by rw[GH,Aj];rfl
theorem Sr(S:A1)(c:Ch):AE (B9.box (UC c)::S) 2 true (.bx S.length 2)=some (yE c):=by rw[GH,Aj];rfl
def VC(c:Ch):Prop:=((1<=c.1.1/\1<=c.1.2)/\VR c.num c.den)/\(VR c.num c.den/\val c.num<=val c.den)
def VL(l:List Ch):Prop:=∀i c,l[i]? = some c->VC c/\∀c',c'∈l.take i->c'.1≠c.1
theorem v52(r:Row):A0 (call dp) 52 [.agg (Ar r)]=some (.b (decide (1<=r.1/\1<=r.2))):=by
 apply i52 _ _ (by simp[A9]) rfl;by_cases h1:1<=r.1
 .simp[s52,h1]
 .simp[s52,h1]
def NU(l:List Ch):List (Row×Unit):=l.map fun c=>(c.1,())
def chMap(l:List Ch):B9:=.map (C8 (fun r:Row=>.agg (Ar r)) (fun _:Unit=>.b true) (NU l))
theorem dn(l:List Ch)(c:Ch):NU l++[(c.1,())]=NU (l++[c]):=by simp[NU]
theorem Ut(l:List Ch)(r:Row):assoc r (NU l)=none<->∀c,c∈l->c.1≠r:=by
 rw[GO];simp only[NU,List.mem_map];constructor
 .intro h c hc;exact h (c.1,()) ⟨c,hc,rfl⟩
 .rintro h p ⟨c,hc,rfl⟩;exact h c hc
theorem SY(l:List Ch)(c:Ch):B9.map (C8 (fun r:Row=>.agg (Ar r)) (fun _:Unit=>.b true) (NU l++[(c.1,())]))=chMap (l++[c]):=by rw[dn];rfl
def J14(nl:Bool)(l:List Ch):Nat->List D->A1->Prop:=fun q fr S=>∃i a2 a10,q=l.length-i/\i<=l.length/\(∀j c,j<i->l[j]? = some c->VC c/\∀c',c'∈l.take j->c'.1≠c.1)/\AA S 0=some (chMap (l.take i)) /\
 fr=B0 39 [(2,a2),(3,.mp 0),(7,Ep nl l),(8,.i .i64 l.length),(9,.i .i64 i),(10,a10)]
open Classical in
theorem v14(nl:Bool)(l:List Ch)(Bg:X2 l)(hb:Bd l.length):A0 (call dp) 14 [Ep nl l]=some (.b (decide (VL l))):=by
 apply i14 _ _ (by simp[A9]) rfl;simp only[s14,JH,mm_eq,Ob,A5,List.length_nil];generalize hR:QS (call dp) Vz _=R;refine AW (J14 nl l) ?_ l.length _ _ ⟨0,.top,.top,by omega,by omega,fun j c hj=>by omega,rfl,rfl⟩;rintro q fr S ⟨i,a2,a10,rfl,hi,hv,hS,rfl⟩;rw[<-Ay,e14_0];by_cases Ap:i<l.length
 .obtain⟨c,hc⟩:∃c,l[i]? = some c:=⟨l[i],gA Ap⟩
  have ok:=Bg c (gC hc);have u52:=v52 c.1;have u53:A0 (call dp) 53 [yE c]=some (.b (decide (VR c.num c.den))):=v53 _ _ _ _ ok.l1 ok.l2 ok.f1 ok.f2 ok.b1 ok.b2;have u30:A0 (call dp) 30 [yE c]=some (.b (decide (VR c.num c.den/\val c.num<=val c.den))):=v30 _ _ _ _ ok.l1 ok.l2 ok.f1 ok.f2 ok.b1 ok.b2;have hS':AA (B9.box (UC c)::S) 0=some (.map (C8 (fun r:Row=>.agg (Ar r)) (fun _:Unit=>.b true) (NU (l.take i)))):=AM hS;have lk:=Gk (ek:=fun r:Row=>.agg (Ar r)) (ev:=fun _:Unit=>.b true) Kh (a:=c.1) (GV c.1) hS' false (.b false);simp only[tW,BH,Ap,decide_true,Ka,Al,XP hc,ld_ch,A5,HY,st_ch,fa_bx,zero_add,Nz,Sr];rw[u52]
  have bad:¬VL l->∀S',KE (fun Au S'=>∃m',m'<l.length-i/\J14 nl l m' Au S') (Af 0 R) .ret (B0 39 [(2,(.b false)),(3,.top),(7,.top),(8,.top),(9,.top),(10,.top)]) S':=by intro hn S';rw[Ja,Jb,<-hR,PQ,Cb,decide_eq_false hn];rfl
  by_cases h1:1<=c.1.1/\1<=c.1.2
  .by_cases h2:VR c.num c.den
   .by_cases h3:VR c.num c.den/\val c.num<=val c.den
    .by_cases h4:∀c',c'∈l.take i->c'.1≠c.1
     .have ha:=(Ut (l.take i) c.1).2 h4;rw[ha] at lk;have xZ:=KT (ek:=fun r:Row=>.agg (Ar r)) (ev:=fun _:Unit=>.b true) Kh (a:=c.1) (b:=()) (GV c.1) hS' ha;simp only[h1,h2,h3,u53,u30,and_self,decide_true,A5,Cu,Bool.not_true,EE,GI,Nz,Sr,lk,okD_fn,Option.map_none,Ac,Nz,xZ,CG (show Bd i by unfold Bd at *;omega),Ao];refine⟨l.length-(i+1),by omega,i+1,a2,.top,rfl,by omega,?_,?_,rfl⟩
      .intro j c' hj YC;by_cases e:j=i
       .subst e;rw[hc] at YC;injection YC with YC
        subst YC;exact⟨⟨⟨h1,h2⟩,h3⟩,h4⟩
       .exact hv j c' (by omega) YC
      .rw[AR _ (by simp),BV hc,<-SY]
     .obtain⟨b,YJ⟩:∃b,assoc c.1 (NU (l.take i))=some b:=by
       cases ha:assoc c.1 (NU (l.take i)) with
       |none=>exact absurd ((Ut _ _).1 ha) h4
       |some b=>exact⟨b,rfl⟩
      rw[YJ] at lk;simp only[h1,h2,h3,u53,u30,and_self,decide_true,A5,Cu,Bool.not_true,EE,GI,Nz,Sr,lk,uf,map_some,Al];exact bad (fun h=>h4 (h i c hc).2) _
    .rw[decide_eq_false h3] at u30;simp only[h1,h2,u53,u30,and_self,decide_true,A5,Cu,Bool.not_true,Bool.not_false,Nz,Sr,EE,JD,GI,Jf,Al];exact bad (fun h=>h3 (h i c hc).1.2) _
   .simp only[h1,h2,u53,and_self,decide_true,decide_false,A5,Cu,Bool.not_true,Bool.not_false,Nz,Sr,EE,JD,GI,Jf,Al];exact bad (fun h=>h2 (h i c hc).1.1.2) _
  .simp only[h1,decide_false,A5,Cu,Bool.not_false,JD,Jf,Al];exact bad (fun h=>h1 (h i c hc).1.1.1) _
 .have:i=l.length:=by omega
  subst this
  have hvl:VL l:=fun j c hj=>hv j c (by
   rcases Nat.lt_or_ge j l.length with q|q
   .exact q
   .rw[List.getElem?_eq_none q] at hj;cases hj) hj
  simp only[tW,BH,Ap,decide_false,Km,Ac,BC,Av];rw[<-hR];simp only[Ad,e14_r0,rL];rw[Cb,decide_eq_true hvl];rfl
section
open Go Go.ChangeShapes Go.WideShapes Go.RowKit
set_option maxRecDepth 100000
def there(w:World):GD:=fun b o=>∃v,w.cell? ⟨b,o,none⟩=some v
theorem sim0{dp:Nat->Option Fn}(w:World)(hg:nQ [] w []):BX dp (there w) [] w []:=
 ⟨rfl,fun _ _ h=>h,fun _ _ _ h=>by(cases h),fun _ _ _ _ _ _ _ h=>by(cases h),hg⟩
section
variable {H:Type}{enc:TypeId×Value->H}{w:World}{base:Nat}{spare:Nat->Bool}{held:Bool}{fuel:Nat}{cs:List Value}{x:DataW H×List MemPlace}
theorem wf64{n:Int}(h:(Lit.int .i64 n).wf=true):KF n:=by simp only[Lit.wf,Bool.and_eq_true,decide_eq_true_eq] at h;exact h
theorem Nb(h:DataW.trod enc Tryz.prog w base spare held fuel 3 cs=some x):∃n,cs=[.int .i64 n]/\KF n:=by obtain⟨n,h1,_,h2⟩:=DataW.trod_int Tryz.underlying3 h;exact⟨n,h1,wf64 h2⟩
end
theorem jo{Z:Type}{p:Nat->Z->Prop}:∀n,(∀i,i<n->∃x,p i x)->∃l:List Z,l.length=n/\∀i x,l[i]? = some x->p i x
 |0,_=>⟨[],rfl,fun _ _ h=>by simp at h⟩
 |n+1,h=>by
  obtain⟨l,h1,h2⟩:=jo n fun i hi=>h i (by omega);obtain⟨x,hx⟩:=h n (by omega);refine⟨l++[x],by simp[h1],fun i y hy=>?_⟩;rw[List.getElem?_append] at hy;split at hy
  .exact h2 i y hy
  .rename_i Ap
   have:i=l.length:=by have:=(gB.1 hy).1;simp at this;omega
   subst this;simp at hy;subst hy;rw[h1];exact hx
def C9(dp:Nat->Option Fn)(w:World)(cs:List Value)(ds:List D):Prop:=cs.length=ds.length/\∀(m:Nat) (v:Value) (d:D),cs[m]? = some v->ds[m]? = some d->v.oneCell'=true/\Rel dp (there w) [] w v d
section
variable {dp:Nat->Option Fn}{w:World}
theorem C9.nil:C9 dp w [] []:=⟨rfl,fun _ _ _ h=>by simp at h⟩
theorem C9.cons{v:Value}{d:D}{cs:List Value}{ds:List D}(h1:v.oneCell'=true)(h2:Rel dp (there w) [] w v d)(h:C9 dp w cs ds):C9 dp w (v::cs) (d::ds):=
 ⟨by simp[h.1],fun m u e hu he=>by
  match m with
  |0=>simp at hu he;subst hu he;exact⟨h1,h2⟩
  |m+1=>exact h.2 m u e (by simpa using hu) (by simpa using he)⟩
theorem C9.app{cs ah:List Value}{ds ds':List D}(h:C9 dp w cs ds)(h':C9 dp w ah ds'):C9 dp w (cs++ah) (ds++ds'):=by
 refine⟨by simp[h.1,h'.1],fun m u e hu he=>?_⟩;rw[List.getElem?_append] at hu he;rw[h.1] at hu;split at hu<;>rename_i Ap
 .rw[if_pos Ap] at he;exact h.2 m u e hu he
 .rw[if_neg Ap] at he;exact h'.2 _ u e hu he
variable {H:Type}{enc:TypeId×Value->H}{base:Nat}{spare:Nat->Bool}{held:Bool}{fuel:Nat}{cs:List Value}{x:DataW H×List MemPlace}
theorem Uj{t e k:Nat}{Z:Type}(en:Z->List D)(P:Z->Prop)(ht:Tryz.prog.underlying t=some (.slice e))(hk:Tryz.prog.cellsOf e=k)(OK:0<k)(J0:∀a,(en a).length=k)
  (ae:∀(n:Nat) (cs:List Value) (y:DataW H×List MemPlace),n<fuel->DataW.trod enc Tryz.prog w base spare held n e cs=some y->(∃es sp,x.1=.slice es sp/\y.1∈es)->∃a,P a/\C9 dp w cs (en a))
  (h:DataW.trod enc Tryz.prog w base spare held fuel t cs=some x) :
  ∃nl l v,(nl=true->l=[])/\(∀a∈l,P a)/\l.length<=maxLen/\cs=[v]/\v.oneCell'=true/\Rel dp (there w) [] w v (.sl k nl (l.map en) .ro)/\(l=[]\/∃es sp,x.1=.slice es sp/\es.length=l.length):=by
 rcases DataW.trod_slice ht h with⟨rfl,_⟩|⟨a,len,cap,elems,rest,n,rfl,rfl,hxe,hb,hl,hm,hel,hx,_,_⟩
 .exact⟨true,[],_,fun _=>rfl,fun _ h=>by(cases h),Nat.zero_le _,rfl,rfl,.nil k .ro,.inl rfl⟩
 .obtain⟨l,hll,YB⟩:=jo (Z:=List Value × Z) (p:=fun i y=>w.cells? base (a.add (i*k)) k=some y.1/\P y.2/\C9 dp w y.1 (en y.2)) len (fun i hi=>by
   have h1:=hx i hi;rw[hk] at h1;obtain⟨y,hy⟩:∃y,elems[i]? = some y:=⟨_,gA (by omega)⟩
   rw[hy] at h1;cases hc:w.cells? base (a.add (i*k)) k with
   |none=>rw[hc] at h1;cases h1
   |some ah=>
    rw[hc] at h1;obtain⟨z,p1,p2⟩:=ae n ah y (Nat.lt_succ_self n) h1 ⟨_,_,congrArg Prod.fst hxe,List.mem_map.2 ⟨y,gC hy,rfl⟩⟩
    exact⟨(ah,z),rfl,p1,p2⟩)
  refine⟨false,l.map (·.2),_,fun h=>by(cases h),?_,by simp;omega,rfl,rfl,?_,.inr ⟨_,_,congrArg Prod.fst hxe,by simp;omega⟩⟩
  .intro y hy;obtain⟨z,hz,rfl⟩:=List.mem_map.1 hy;obtain⟨i,hi⟩:=List.mem_iff_getElem?.1 hz;exact(YB i z hi).2.1
  .rcases Nat.eq_zero_or_pos len with h0|h0
   .subst h0;have:l=[]:=List.length_eq_zero_iff.1 hll;subst this;exact .emp k a cap
   .obtain⟨blk,off,spot⟩:=a
    have hspot:spot=none:=by
     obtain⟨z,hz⟩:∃z,l[0]? = some z:=⟨_,gA (by omega)⟩
     obtain⟨h1,_⟩:=YB 0 z hz;obtain⟨_,hlen,h3⟩:=World.cells?_some h1;have:=h3 0 OK
     have hz0:z.1[0]? ≠ none:=by intro hn;rw[List.getElem?_eq_none_iff] at hn;omega
     simp only[Nat.zero_mul,Addr.add,if_true] at this;cases spot with
     |none=>rfl
     |some b=>
      exfalso;apply hz0;rw[<-this];unfold World.cell?;split<;>simp_all
    subst hspot
    have hadd:∀i j,((Addr.mk blk off none).add i).add j=⟨blk,off+i+j,none⟩:=by intro i j;unfold Addr.add;by_cases hi:i=0<;>by_cases hj:j=0<;>simp[hi,hj,Nat.add_assoc]
    have Cv:∀i z,l[i]? = some z->∀j,j<k->w.cell? ⟨blk,off+i*k+j,none⟩=z.1[j]?:=by
     intro i z hz j hj;obtain⟨h1,_⟩:=YB i z hz;obtain⟨_,_,h3⟩:=World.cells?_some h1;have:=h3 j hj
     rwa [hadd] at this
    have Lc:∀(j:Nat) (y:List D),((l.map (·.2)).map en)[j]? = some y->∃z,l[j]? = some z/\y=en z.2:=by
     intro j y hj;rw[List.getElem?_map,List.getElem?_map] at hj;cases hz:l[j]? with
     |none=>rw[hz] at hj;simp at hj
     |some z=>rw[hz] at hj;simp at hj;exact⟨z,rfl,hj.symm⟩
    have key:=Rel.sl (dp:=dp) (F:=there w) (G:=[]) (w:=w) k ((l.map (·.2)).map en) .ro blk off cap (fun j m=>((l[j]?).bind fun z=>z.1[m]?).getD .nilIface)
     (by
      intro y hy;obtain⟨z,_,rfl⟩:=List.mem_map.1 hy
      exact J0 _) (by simp;omega)
     (by
      intro j y m d hj hd;obtain⟨z,hz,rfl⟩:=Lc j y hj
      have xY:m<k:=by
       have:=(gB.1 hd).1
       rwa [J0] at this
      obtain⟨_,_,hr⟩:=YB j z hz;obtain⟨v,hv⟩:∃v,z.1[m]? = some v:=⟨_,gA (by rw[hr.1,J0];exact xY)⟩
      have hc:=Cv j z hz m xY;rw[hv] at hc;simp only[hz,bind_some,hv,getD_some]
      exact⟨⟨v,hc⟩,hc,(hr.2 m v d hv hd).1⟩)
     (by
      intro j y m d hj hd;obtain⟨z,hz,rfl⟩:=Lc j y hj
      have xY:m<k:=by
       have:=(gB.1 hd).1
       rwa [J0] at this
      obtain⟨_,_,hr⟩:=YB j z hz;obtain⟨v,hv⟩:∃v,z.1[m]? = some v:=⟨_,gA (by rw[hr.1,J0];exact xY)⟩
      simp only[hz,bind_some,hv,getD_some]
      exact(hr.2 m v d hv hd).2)
     trivial
    have hlen:((l.map (·.2)).map en).length=len:=by simp[hll]
    rw[hlen] at key;exact key
theorem Uq{t e k:Nat}{Z:Type}(en:Z->List D)(P:Z->Prop)(ht:Tryz.prog.underlying t=some (.slice e))(hk:Tryz.prog.cellsOf e=k)(OK:0<k)(J0:∀a,(en a).length=k)
  (ae:∀(n:Nat) (cs:List Value) (x:DataW H×List MemPlace),n<fuel->DataW.trod enc Tryz.prog w base spare held n e cs=some x->∃a,P a/\C9 dp w cs (en a))
  (h:DataW.trod enc Tryz.prog w base spare held fuel t cs=some x) :
  ∃nl l v,(nl=true->l=[])/\(∀a∈l,P a)/\l.length<=maxLen/\cs=[v]/\v.oneCell'=true/\Rel dp (there w) [] w v (.sl k nl (l.map en) .ro):=by
 obtain⟨nl,l,v,a1,a2,a3,a4,a5,a6,_⟩:=Uj (dp:=dp) en P ht hk OK J0 (fun n cs y h1 h2 _=>ae n cs y h1 h2) h;exact⟨nl,l,v,a1,a2,a3,a4,a5,a6⟩
theorem Wg:Tryz.prog.cellsOf 40=2:=by kernel_rfl
theorem Wc:Tryz.prog.cellsOf 3=1:=by kernel_rfl
theorem yt:Tryz.prog.cellsOf 30=1:=by kernel_rfl
theorem gp:Tryz.prog.cellsOf 32=2:=by kernel_rfl
theorem jg:Tryz.prog.cellsOf 65=4:=by kernel_rfl
theorem tE:Tryz.prog.cellsOf 135=1:=by kernel_rfl
theorem pL(h:DataW.trod enc Tryz.prog w base spare held fuel 40 cs=some x):∃r:Row,ZZ r/\C9 dp w cs (Ar r):=by
 obtain⟨y0,y1,n,_,hl,h0,h1⟩:=trod_struct2 Tryz.underlying40 h;rw[Wg] at hl;simp only[Wc] at h0 h1
 match cs,hl with
 |[a,b],_=>
  obtain⟨n0,e0,w0⟩:=Nb h0;obtain⟨n1,e1,w1⟩:=Nb h1;simp at e0 e1;subst e0 e1;exact⟨(n0,n1),⟨w0,w1⟩,C9.cons rfl (.i _ _) (C9.cons rfl (.i _ _) C9.nil)⟩
theorem rd_limb(h:DataW.trod enc Tryz.prog w base spare held fuel 135 cs=some x):∃n:Nat,n<NL.B/\C9 dp w cs [.i .u32 (n:Int)]:=by
 obtain⟨n,rfl,_,h2⟩:=DataW.trod_int Tryz.underlying135 h;simp only[Lit.wf,Bool.and_eq_true,decide_eq_true_eq,IntKind.min,IntKind.max,IntKind.signed,IntKind.bits] at h2;obtain⟨k,rfl⟩:∃k:Nat,n=k:=⟨n.toNat,by simp at h2;omega⟩
 refine⟨k,?_,C9.cons rfl (.i _ _) C9.nil⟩;simp at h2;simp only[NL.B];omega
theorem kH(h:DataW.trod enc Tryz.prog w base spare held fuel 30 cs=some x):∃nl l v,(nl=true->l=[])/\NL.CA l/\l.length<=maxLen/\cs=[v]/\v.oneCell'=true/\Rel dp (there w) [] w v (AD nl l .ro):=
 Uq (fun n:Nat=>[D.i .u32 (n:Int)]) (fun n=>n<NL.B) Tryz.underlying30 tE (by decide) (fun _=>rfl) (fun _ _ _ _ h=>rd_limb h) h
theorem rd_q(h:DataW.trod enc Tryz.prog w base spare held fuel 32 cs=some x):∃n1 a n2 b,NF n1 a/\NF n2 b/\NL.CA a/\NL.CA b/\C9 dp w cs [AD n1 a .ro,AD n2 b .ro]:=by
 obtain⟨y0,y1,n,_,hl,h0,h1⟩:=trod_struct2 Tryz.underlying32 h;rw[gp] at hl;simp only[yt] at h0 h1
 match cs,hl with
 |[a,b],_=>
  obtain⟨n1,l1,v1,g1,k1,_,e1,o1,r1⟩:=kH (dp:=dp) h0;obtain⟨n2,l2,v2,g2,k2,_,e2,o2,r2⟩:=kH (dp:=dp) h1;simp at e1 e2;subst e1 e2;exact⟨n1,l1,n2,l2,g1,g2,k1,k2,C9.cons o1 r1 (C9.cons o2 r2 C9.nil)⟩
theorem rd_ch(h:DataW.trod enc Tryz.prog w base spare held fuel 65 cs=some x):∃c:Ch,(NF c.2.1.1 c.num/\NF c.2.2.1 c.den/\NL.CA c.num/\NL.CA c.den)/\C9 dp w cs (UC c):=by
 obtain⟨y0,y1,n,_,hl,h0,h1⟩:=trod_struct2 Tryz.underlying65 h;rw[jg] at hl;simp only[Wg,gp] at h0 h1
 match cs,hl with
 |[a,b,c,d],_=>
  obtain⟨r,_,q0⟩:=pL (dp:=dp) h0;obtain⟨n1,l1,n2,l2,g1,g2,k1,k2,q1⟩:=rd_q (dp:=dp) h1;exact⟨(r,(n1,l1),(n2,l2)),⟨g1,g2,k1,k2⟩,q0.app q1⟩
theorem rd_chs(h:DataW.trod enc Tryz.prog w base spare held fuel 26 cs=some x):∃nl l v,(nl=true->l=[])/\(∀c∈l,NF c.2.1.1 c.num/\NF c.2.2.1 c.den/\NL.CA c.num/\NL.CA c.den)/\l.length<=maxLen/\cs=[v]/\v.oneCell'=true/\Rel dp (there w) [] w v (Ep nl l):=
 Uq UC _ Tryz.underlying26 jg (by decide) (fun _=>rfl) (fun _ _ _ _ h=>rd_ch h) h
variable {r:Reach}{b0:Nat}{v:Value}{d:DataW H}{ps:List MemPlace}
theorem mw(hv:Value.okWide Tryz.prog w r b0 26 v)(h:DataW.Trod enc Tryz.prog w base spare held 26 v d ps) :
  ∃nl l,(nl=true->l=[])/\(∀c∈l,NF c.2.1.1 c.num/\NF c.2.2.1 c.den/\NL.CA c.num/\NL.CA c.den)/\l.length<=maxLen/\Rel dp (there w) [] w v (Ep nl l):=by
 obtain⟨fuel,h⟩:=h;simp only[Value.okWide,Tryz.underlying26] at hv
 have hc:v.cells.toList=[v]:=by cases v<;>first|rfl|(simp only[Cell.okWide,Tryz.underlying26,Cell.ok] at hv)
 rw[hc] at h;obtain⟨nl,ord,va,g1,g2,g3,e1,_,r1⟩:=rd_chs (dp:=dp) h;injection e1 with e1
 subst e1;exact⟨nl,ord,g1,g2,g3,r1⟩
end
end
open Go
structure Vl where
 kind:Int
 int:Int
 text:List UInt8
structure Fc(Z:Type) where
 kind:Int
 row:Row
 NG:Bool
 args:List Z
 fn:Int
 inl:Bool
 items:List (Vl × Z)
 op:Int
 bound:Vl
 exp:Int
structure Tm(Z:Type) where
 c:Int
 nl:Bool
 fs:List (Fc Z)
structure An(Z:Type) where
 nl:Bool
 ts:List (Tm Z)
def Eu:Nat->Type
 |0=>Empty
 |n+1=>An (Eu n)
section
variable {Z:Type}(e:Z->D)
def OY(v:Vl):List D:=[.i .i64 v.kind,.i .i64 v.int,.s v.text]
def Gw(p:Vl × Z):List D:=[.i .i64 p.1.kind,.i .i64 p.1.int,.s p.1.text,e p.2]
def Bl(nl:Bool)(l:List Z):D:=.sl 1 nl (l.map fun a=>[e a]) .ro
def B6(nl:Bool)(l:List (Vl × Z)):D:=.sl 4 nl (l.map (Gw e)) .ro
def GZ(f:Fc Z):List D:=[.i .i64 f.kind,.i .i64 f.row.1,.i .i64 f.row.2,Bl e f.NG f.args,.i .i64 f.fn,B6 e f.inl f.items,.i .i64 f.op,.i .i64 f.bound.kind,.i .i64 f.bound.int,.s f.bound.text]
def EF(f:Fc Z):List D:=[.i .i64 f.kind,.i .i64 f.row.1,.i .i64 f.row.2,Bl e f.NG f.args,.i .i64 f.fn,B6 e f.inl f.items,.i .i64 f.op,.i .i64 f.bound.kind,.i .i64 f.bound.int,.s f.bound.text,.i .i64 f.exp]
def BI(nl:Bool)(l:List (Fc Z)):D:=.sl 11 nl (l.map (EF e)) .ro
def Cj(t:Tm Z):List D:=[.i .i64 t.c,BI e t.nl t.fs]
def Gx(nl:Bool)(l:List (Tm Z)):D:=.sl 2 nl (l.map (Cj e)) .ro
def CL(x:An Z):D:=Gx e x.nl x.ts
end
def As:(n:Nat)->Eu n->D
 |0,x=>nomatch x
 |n+1,x=>CL (As n) x
def GE{Z:Type}(e:Z->D):Prop:=∀a,∃nl xs,e a=.sl 2 nl xs .ro/\Bo xs=true
section
variable {Z:Type}{e:Z->D}
theorem GE.cell(h:GE e)(a:Z):BF (e a)=true:=by obtain⟨nl,xs,q,_⟩:=h a;rw[q];rfl
theorem GE.AG(h:GE e)(a:Z):AG (e a)=true:=by obtain⟨nl,xs,q,k⟩:=h a;rw[q];simpa[DE.AG] using k
theorem GE.strip(h:GE e)(a:Z):strip (e a)=e a:=by obtain⟨nl,xs,q,k⟩:=h a;rw[q];rfl
theorem GR{Z:Type}(f:Z->List D)(l:List Z)(h:∀x,x∈l->A9 (f x)=true):Bo (l.map f)=true:=by
 induction l with
 |nil=>rfl
 |cons x l ih=>simp[Bo,h x (by simp),ih fun y hy=>h y (by simp[hy])]
theorem Tk(h:GE e)(p:Vl × Z):A9 (Gw e p)=true:=by simp[Gw,A9,DE.AG,h.AG]
theorem Ed(h:GE e)(nl:Bool)(l:List Z):AG (Bl e nl l)=true:=by simp only[Bl,DE.AG,Bool.true_and];exact GR _ _ fun x _=>by simp[A9,h.AG]
theorem EC(h:GE e)(nl:Bool)(l:List (Vl × Z)):AG (B6 e nl l)=true:=by simp only[B6,DE.AG,Bool.true_and];exact GR _ _ fun x _=>Tk h x
theorem bF(h:GE e)(f:Fc Z):A9 (GZ e f)=true:=by simp[GZ,A9,Ed h,EC h,DE.AG]
theorem SB(h:GE e)(f:Fc Z):A9 (EF e f)=true:=by simp[EF,A9,Ed h,EC h,DE.AG]
theorem EH(h:GE e)(nl:Bool)(l:List (Fc Z)):AG (BI e nl l)=true:=by simp only[BI,DE.AG,Bool.true_and];exact GR _ _ fun x _=>SB h x
theorem Nf(h:GE e)(t:Tm Z):A9 (Cj e t)=true:=by simp[Cj,A9,EH h]
theorem HC(h:GE e)(nl:Bool)(l:List (Tm Z)):AG (Gx e nl l)=true:=by simp only[Gx,DE.AG,Bool.true_and];exact GR _ _ fun x _=>Nf h x
theorem Bj(h:GE e)(x:An Z):AG (CL e x)=true:=HC h _ _
theorem GE_eAn(h:GE e):GE (CL e):=fun x=>⟨x.nl,_,rfl,GR _ _ fun t _=>Nf h t⟩
end
theorem Az:∀n,GE (As n)
 |0=>fun x=>nomatch x
 |n+1=>GE_eAn (Az n)
section
variable {Z:Type}(e:Z->D)(k:IntKind)(S:A1)
@[simp] theorem Cz(nl:Bool)(l:List Z):strip (Bl e nl l)=Bl e nl l:=(rfl)
@[simp] theorem CI(nl:Bool)(l:List (Vl × Z)):strip (B6 e nl l)=B6 e nl l:=(rfl)
@[simp] theorem E9(nl:Bool)(l:List (Fc Z)):strip (BI e nl l)=BI e nl l:=(rfl)
@[simp] theorem EA(nl:Bool)(l:List (Tm Z)):strip (Gx e nl l)=Gx e nl l:=(rfl)
@[simp] theorem Ma(x:An Z):strip (CL e x)=CL e x:=(rfl)
@[simp] theorem bD(f:Fc Z):strip (.agg (GZ e f))=.agg (GZ e f):=(rfl)
@[simp] theorem strip_agFc(f:Fc Z):strip (.agg (EF e f))=.agg (EF e f):=(rfl)
@[simp] theorem cA(f:Tm Z):strip (.agg (Cj e f))=.agg (Cj e f):=(rfl)
@[simp] theorem strip_agVl(f:Vl):strip (.agg (OY f))=.agg (OY f):=(rfl)
theorem LB(h:GE e)(p:Vl × Z):strip (.agg (Gw e p))=.agg (Gw e p):=by obtain⟨nl,xs,q,_⟩:=h p.2;simp only[Gw,q];rfl
@[simp] theorem isCell_s(l:List UInt8):BF (.s l)=true:=(rfl)
@[simp] theorem noRef_s(l:List UInt8):AG (.s l)=true:=(rfl)
@[simp] theorem noRef_agVl(f:Vl):AG (.agg (OY f))=true:=(rfl)
@[simp] theorem strip_s(l:List UInt8):strip (.s l)=.s l:=(rfl)
@[simp] theorem eAt_len(f:Fc Z):(GZ e f).length=10:=(rfl)
@[simp] theorem eFc_len(f:Fc Z):(EF e f).length=11:=(rfl)
theorem cP(h:GE e)(p:Vl × Z):HO (Gw e p)=true:=by simp[Gw,h.cell]
@[simp] theorem cellsK_vl(f:Vl):Am 3 true (.agg (OY f))=some (OY f):=(rfl)
@[simp] theorem lP(f:Fc Z):Am 10 true (.agg (GZ e f))=some (GZ e f):=(rfl)
@[simp] theorem cellsK_fc(f:Fc Z):Am 11 true (.agg (EF e f))=some (EF e f):=(rfl)
@[simp] theorem cellsK_tm(f:Tm Z):Am 2 true (.agg (Cj e f))=some (Cj e f):=(rfl)
theorem Cs(h:GE e)(p:Vl × Z):Am 4 true (.agg (Gw e p))=some (Gw e p):=JV rfl (cP e h p)
@[simp] theorem splice_it(f:Vl × Z)(z0 z1 z2 z3:D):Ai [z0,z1,z2,z3] 0 (Gw e f)=Gw e f:=(rfl)
@[simp] theorem splice_tm(f:Tm Z)(z0 z1:D):Ai [z0,z1] 0 (Cj e f)=Cj e f:=(rfl)
@[simp] theorem splice_at(f:Fc Z)(z0 z1 z2 z3 z4 z5 z6 z7 z8 z9:D):Ai [z0,z1,z2,z3,z4,z5,z6,z7,z8,z9] 0 (GZ e f)=GZ e f:=(rfl)
@[simp] theorem splice_fc(f:Fc Z)(z0 z1 z2 z3 z4 z5 z6 z7 z8 z9 z10:D):Ai [z0,z1,z2,z3,z4,z5,z6,z7,z8,z9,z10] 0 (EF e f)=EF e f:=(rfl)
@[simp high] theorem vl_0(f:Vl):(OY f)[0]? = some (.i .i64 f.kind):=(rfl)
@[simp high] theorem vl_1(f:Vl):(OY f)[1]? = some (.i .i64 f.int):=(rfl)
@[simp high] theorem vl_2(f:Vl):(OY f)[2]? = some (.s f.text):=(rfl)
@[simp high] theorem it_0(f:Vl × Z):(Gw e f)[0]? = some (.i .i64 f.1.kind):=(rfl)
@[simp high] theorem it_1(f:Vl × Z):(Gw e f)[1]? = some (.i .i64 f.1.int):=(rfl)
@[simp high] theorem it_2(f:Vl × Z):(Gw e f)[2]? = some (.s f.1.text):=(rfl)
@[simp high] theorem it_3(f:Vl × Z):(Gw e f)[3]? = some (e f.2):=(rfl)
@[simp high] theorem tm_0(f:Tm Z):(Cj e f)[0]? = some (.i .i64 f.c):=(rfl)
@[simp high] theorem tm_1(f:Tm Z):(Cj e f)[1]? = some (BI e f.nl f.fs):=(rfl)
@[simp high] theorem at_0(f:Fc Z):(GZ e f)[0]? = some (.i .i64 f.kind):=(rfl)
@[simp high] theorem at_1(f:Fc Z):(GZ e f)[1]? = some (.i .i64 f.row.1):=(rfl)
@[simp high] theorem at_2(f:Fc Z):(GZ e f)[2]? = some (.i .i64 f.row.2):=(rfl)
@[simp high] theorem at_3(f:Fc Z):(GZ e f)[3]? = some (Bl e f.NG f.args):=(rfl)
@[simp high] theorem at_4(f:Fc Z):(GZ e f)[4]? = some (.i .i64 f.fn):=(rfl)
@[simp high] theorem at_5(f:Fc Z):(GZ e f)[5]? = some (B6 e f.inl f.items):=(rfl)
@[simp high] theorem at_6(f:Fc Z):(GZ e f)[6]? = some (.i .i64 f.op):=(rfl)
@[simp high] theorem at_9(f:Fc Z):(GZ e f)[9]? = some (.s f.bound.text):=(rfl)
@[simp high] theorem fc_0(f:Fc Z):(EF e f)[0]? = some (.i .i64 f.kind):=(rfl)
@[simp high] theorem fc_3(f:Fc Z):(EF e f)[3]? = some (Bl e f.NG f.args):=(rfl)
@[simp high] theorem fc_5(f:Fc Z):(EF e f)[5]? = some (B6 e f.inl f.items):=(rfl)
@[simp high] theorem fc_10(f:Fc Z):(EF e f)[10]? = some (.i .i64 f.exp):=(rfl)
@[simp high] theorem rdK_fc_at(f:Fc Z):MM (EF e f) 0 10 true=some (.agg (GZ e f)):=(rfl)
@[simp high] theorem rdK_fc(f:Fc Z):MM (EF e f) 0 11 true=some (.agg (EF e f)):=(rfl)
@[simp high] theorem rdK_at(f:Fc Z):MM (GZ e f) 0 10 true=some (.agg (GZ e f)):=(rfl)
@[simp high] theorem rdK_at_row(f:Fc Z):MM (GZ e f) 1 2 true=some (.agg (Ar f.row)):=(rfl)
@[simp high] theorem mr(f:Fc Z):MM (GZ e f) 7 3 true=some (.agg (OY f.bound)):=(rfl)
@[simp high] theorem rdK_tm(f:Tm Z):MM (Cj e f) 0 2 true=some (.agg (Cj e f)):=(rfl)
@[simp high] theorem rdK_vl(f:Vl):MM (OY f) 0 3 true=some (.agg (OY f)):=(rfl)
@[simp high] theorem rdK_it(f:Vl × Z):MM (Gw e f) 0 4 true=some (.agg (Gw e f)):=(rfl)
@[simp high] theorem rdK_it_vl(f:Vl × Z):MM (Gw e f) 0 3 true=some (.agg (OY f.1)):=(rfl)
@[simp] theorem LD(nl:Bool)(l:List Z):AK false (Bl e nl l)=some (.i .i64 l.length):=by simp[Bl,AK]
@[simp] theorem Hl(nl:Bool)(l:List (Vl × Z)):AK false (B6 e nl l)=some (.i .i64 l.length):=by simp[B6,AK]
@[simp] theorem MU(nl:Bool)(l:List (Fc Z)):AK false (BI e nl l)=some (.i .i64 l.length):=by simp[BI,AK]
@[simp] theorem KX(nl:Bool)(l:List (Tm Z)):AK false (Gx e nl l)=some (.i .i64 l.length):=by simp[Gx,AK]
@[simp] theorem M4(x:An Z):AK false (CL e x)=some (.i .i64 x.ts.length):=by simp[CL]
@[simp] theorem lenD_s(l:List UInt8):AK true (.s l)=some (.i .i64 l.length):=(rfl)
theorem Bq{nl:Bool}{l:List Z}{n:Nat}{r:Z}(h:l[n]? = some r):Ak 1 (Bl e nl l) (.i k n)=some (.el [e r] 0):=by simp[Bl,Ak,h]
theorem Bw{nl:Bool}{l:List (Vl × Z)}{n:Nat}{r:Vl × Z}(h:l[n]? = some r):Ak 4 (B6 e nl l) (.i k n)=some (.el (Gw e r) 0):=by simp[B6,Ak,h]
theorem Aq{nl:Bool}{l:List (Fc Z)}{n:Nat}{r:Fc Z}(h:l[n]? = some r):Ak 11 (BI e nl l) (.i k n)=some (.el (EF e r) 0):=by simp[BI,Ak,h]
theorem Ko{nl:Bool}{l:List (Tm Z)}{n:Nat}{r:Tm Z}(h:l[n]? = some r):Ak 2 (Gx e nl l) (.i k n)=some (.el (Cj e r) 0):=by simp[Gx,Ak,h]
theorem Bn{x:An Z}{n:Nat}{r:Tm Z}(h:x.ts[n]? = some r):Ak 2 (CL e x) (.i k n)=some (.el (Cj e r) 0):=Ko e k h
@[simp] theorem bin_s_eql(l m:List UInt8):A4 .eql .str (.s l) (.s m)=some (.b (l==m)):=(rfl)
end
theorem uy{Z:Type}(f:Z->Nat){l:List Z}{k:Nat}{x:Z}(h:l[k]? = some x):((l.take (k+1)).map f).sum=((l.take k).map f).sum+f x:=by rw[List.take_add_one,h];simp
theorem Ea{Z:Type}(f:Z->Nat):∀{l:List Z} {x:Z},x∈l->f x<=(l.map f).sum
 |y::l,x,h=>by
  rcases List.mem_cons.1 h with h|h
  .subst h;simp
  .have:=Ea f h;simp only[map_cons,List.sum_cons];omega
theorem SX{Z:Type}(f:Z->Nat)(h:∀x,1<=f x):∀(l:List Z),l.length<=(l.map f).sum
 |[]=>by simp
 |x::l=>by have:=SX f h l;have:=h x;simp only[map_cons,List.sum_cons,length_cons];omega
section
variable {Z:Type}(w:Z->Nat)
def jS(p:Vl × Z):Nat:=p.1.text.length+w p.2
def Kw(f:Fc Z):Nat:=f.items.length+f.args.length+f.bound.text.length+(f.args.map w).sum+(f.items.map (jS w)).sum
def Hn(t:Tm Z):Nat:=1+t.fs.length+(t.fs.map (Kw w)).sum
def Sy(x:An Z):Nat:=(x.ts.map (Hn w)).sum
end
def CD:(n:Nat)->Eu n->Nat
 |0,x=>nomatch x
 |n+1,x=>Sy (CD n) x
abbrev Bi(n:Nat):Prop:=n<=9223372036854775807
theorem Br{k n:Nat}(h:k<n)(hn:Bi n):IntKind.wrap .i64 ((k:Int)+1)=((k+1:Nat):Int):=by rw[wrap64 ⟨by omega,by unfold Bi at hn;omega⟩];omega
def Wb(v:Vl):Prop:=KF v.kind/\KF v.int/\Bi v.text.length
section
variable {Z:Type}(ok:Z->Prop)
structure KU(f:Fc Z):Prop where
 kind:KF f.kind
 row:ZZ f.row
 NG:f.NG=true->f.args=[]
 OG:Bi f.args.length
 args:∀a,a∈f.args->ok a
 fn:KF f.fn
 inl:f.inl=true->f.items=[]
 NH:Bi f.items.length
 items:∀p,p∈f.items->Wb p.1/\ok p.2
 op:KF f.op
 bound:Wb f.bound
 exp:KF f.exp
structure My(t:Tm Z):Prop where
 c:KF t.c
 nl:t.nl=true->t.fs=[]
 len:Bi t.fs.length
 fs:∀f,f∈t.fs->KU ok f
structure Hd(x:An Z):Prop where
 nl:x.nl=true->x.ts=[]
 len:Bi x.ts.length
 ts:∀t,t∈x.ts->My ok t
end
section
variable {Z:Type}(sm:Z->Prop)
structure nf(f:Fc Z):Prop where
 OG:f.args.length<=140737488355328
 args:∀a,a∈f.args->sm a
 NH:f.items.length<=140737488355328
 items:∀p,p∈f.items->p.1.text.length<=140737488355328/\sm p.2
 bound:f.bound.text.length<=140737488355328
structure SmTm(t:Tm Z):Prop where
 len:t.fs.length<=140737488355328
 fs:∀f,f∈t.fs->nf sm f
structure lf(x:An Z):Prop where
 len:x.ts.length<=140737488355328
 ts:∀t,t∈x.ts->SmTm sm t
end
def Lu:(n:Nat)->Eu n->Prop
 |0,_=>True
 |n+1,x=>lf (Lu n) x
def Bf:(n:Nat)->Eu n->Prop
 |0,_=>True
 |n+1,x=>Hd (Bf n) x
end Go.Proofs.YtjniafcnjbbomaaGreatDoor.DE.V
namespace Go.Proofs.YtjniafcnjbbomaaGreatDoor.DE
open Go
abbrev m89(a0 a2 a3 a7 a8 a9 a10:D):List D:=B0 27 [(0,a0),(2,a2),(3,a3),(7,a7),(8,a8),(9,a9),(10,a10)]
def sY:Sx:=fun cf a0 a2 a3 a7 a8 a9 a10 S Q=>OX (AK false a0) fun x1=>OX (A4 .leq .num x1 (.n 4096)) fun x2=>Q .ret (m89 .top x2 .top .top .top .top .top) S
def e89_r0:N7 bk m89 sY:=yH
def s89_0:Sx:=fun cf a0 a2 a3 a7 a8 a9 a10 S Q=>OX (A4 .lss .num a9 a8) fun x3=>WB x3
 (OX (Ak 2 a7 a9) fun x4=>OX (AE S 2 true x4) fun x5=>al [.n 0,.n 0] S fun x6 S7=>OX (Ax S7 2 true x6 x5) fun S9=>OX (AE S9 2 true x6) fun x10=>OX (A0 cf 52 [x10]) fun x11=>OX (ES .not x11) fun x12=>OX (A8 x12 false (some a3)) fun x13=>OX (A8 x12 false (AE S9 2 true x6)) fun x14=>OX (A8 x12 false (ON (.agg [.i,.i]) false (.b false) S9 x13 x14)) fun x15=>OX (AU x12 (.b true) x15) fun x16=>WB x16
 (Q .ret (m89 .top (.b false) .top .top .top .top .top) S9)
 (OX (AE S9 2 true x6) fun x17=>OX (O8 (.agg [.i,.i]) S9 a3 x17 (.b true)) fun S19=>OX (A4 .add .num a9 (.n 1)) fun x20=>Q .normal (m89 a0 a2 a3 a7 a8 x20 .top) S19))
 (Q (.exit 0) (m89 a0 a2 a3 a7 a8 a9 x3) S)
def e89_0:L7 wE m89 s89_0:=yx
def s89:EV:=fun cf a0 S Post=>mm S fun x21 S22=>OX (AK false a0) fun x23=>W cf (.loop [] wE) (m89 a0 .top x21 a0 x23 (.n 0) .top) S22 (Af 0 (QS cf bk (Aw [.t 2] Post)))
def UD:E1 d89 s89:=Uf
def i89:I1 89 s89:=JF d89 (e:=UD)
abbrev m90(a1 a2 a3 a9 a10 a11 a12:D):List D:=B0 98 [(1,a1),(2,a2),(3,a3),(9,a9),(10,a10),(11,a11),(12,a12)]
def wL:Sx:=fun cf a1 a2 a3 a9 a10 a11 a12 S Q=>OX (AO 2 a1) fun x1=>OX (AE S 1 false x1) fun x2=>OX (A4 .geq .num x2 (.n 0)) fun x3=>OX (A8 x3 true (AO 2 a1)) fun x4=>OX (A8 x3 true (AE S 1 false x4)) fun x5=>OX (A8 x3 true (AO 1 a1)) fun x6=>OX (A8 x3 true (AE S 1 false x6)) fun x7=>OX (A8 x3 true (AK false x7)) fun x8=>OX (A8 x3 true (A4 .add .num x8 (.n 2))) fun x9=>OX (A8 x3 true (A4 .lss .num x5 x9)) fun x10=>OX (AU x3 x10 (.b false)) fun x11=>Q .ret (m90 .top x11 .top .top .top .top .top) S
def e90_r0:N7 cJ m90 wL:=yH
def s90_0:Sx:=fun cf a1 a2 a3 a9 a10 a11 a12 S Q=>OX (A4 .lss .num a11 a10) fun x12=>WB x12
 (OX (Ak 3 a9 a11) fun x13=>OX (AE S 3 true x13) fun x14=>al [.n 0,.n 0,.n 0] S fun x15 S16=>OX (Ax S16 3 true x15 x14) fun S18=>OX (AO 1 x15) fun x19=>OX (AE S18 1 false x19) fun x20=>OX (A4 .geq .num x20 (.n 0)) fun x21=>OX (A8 x21 true (AO 2 x15)) fun x22=>OX (A8 x21 true (AE S18 1 false x22)) fun x23=>OX (A8 x21 true (A4 .geq .num x23 (.n 0))) fun x24=>OX (AU x21 x24 (.b false)) fun x25=>OX (A8 x25 true (AO 1 x15)) fun x26=>OX (A8 x25 true (AE S18 1 false x26)) fun x27=>OX (A8 x25 true (some a11)) fun x28=>OX (A8 x25 true (A4 .add .num x28 (.n 2))) fun x29=>OX (A8 x25 true (A4 .lss .num x27 x29)) fun x30=>OX (AU x25 x30 (.b false)) fun x31=>OX (A8 x31 true (AO 2 x15)) fun x32=>OX (A8 x31 true (AE S18 1 false x32)) fun x33=>OX (A8 x31 true (some a11)) fun x34=>OX (A8 x31 true (A4 .add .num x34 (.n 2))) fun x35=>OX (A8 x31 true (A4 .lss .num x33 x35)) fun x36=>OX (AU x31 x36 (.b false)) fun x37=>OX (AO 0 x15) fun x38=>OX (AE S18 1 false x38) fun x39=>OX (A4 .lss .num x39 (.n 0)) fun x40=>OX (A8 x40 false (AO 0 x15)) fun x41=>OX (A8 x40 false (AE S18 1 false x41)) fun x42=>OX (A8 x40 false (AO 0 a1)) fun x43=>OX (A8 x40 false (AE S18 1 false x43)) fun x44=>OX (A8 x40 false (AK false x44)) fun x45=>OX (A8 x40 false (A4 .geq .num x42 x45)) fun x46=>OX (AU x40 (.b true) x46) fun x47=>OX (A8 x47 false (some x37)) fun x48=>OX (A8 x47 false (ES .not x48)) fun x49=>OX (AU x47 (.b true) x49) fun x50=>OX (A8 x50 false (AO 1 x15)) fun x51=>OX (A8 x50 false (AE S18 1 false x51)) fun x52=>OX (A8 x50 false (AO 2 x15)) fun x53=>OX (A8 x50 false (AE S18 1 false x53)) fun x54=>OX (A8 x50 false (A4 .eql .num x52 x54)) fun x55=>OX (AU x50 (.b true) x55) fun x56=>OX (A8 x56 false (some a3)) fun x57=>OX (A8 x56 false (AE S18 3 true x15)) fun x58=>OX (A8 x56 false (ON (.agg [.i,.i,.i]) false (.b false) S18 x57 x58)) fun x59=>OX (AU x56 (.b true) x59) fun x60=>OX (A8 x60 false (AE S18 3 true a1)) fun x61=>OX (A8 x60 false (AO 1 x15)) fun x62=>OX (A8 x60 false (AE S18 1 false x62)) fun x63=>OX (A8 x60 false (A0 cf 158 [x61,x63])) fun x64=>OX (A8 x60 false (AO 0 x15)) fun x65=>OX (A8 x60 false (AE S18 1 false x65)) fun x66=>OX (A8 x60 false (A4 .leq .num x64 x66)) fun x67=>OX (AU x60 (.b true) x67) fun x68=>OX (A8 x68 false (AE S18 3 true a1)) fun x69=>OX (A8 x68 false (AO 2 x15)) fun x70=>OX (A8 x68 false (AE S18 1 false x70)) fun x71=>OX (A8 x68 false (A0 cf 158 [x69,x71])) fun x72=>OX (A8 x68 false (AO 0 x15)) fun x73=>OX (A8 x68 false (AE S18 1 false x73)) fun x74=>OX (A8 x68 false (A4 .leq .num x72 x74)) fun x75=>OX (AU x68 (.b true) x75) fun x76=>WB x76
 (Q .ret (m90 .top (.b false) .top .top .top .top .top) S18)
 (OX (AE S18 3 true x15) fun x77=>OX (O8 (.agg [.i,.i,.i]) S18 a3 x77 (.b true)) fun S79=>OX (A4 .add .num a11 (.n 1)) fun x80=>Q .normal (m90 a1 a2 a3 a9 a10 x80 .top) S79))
 (Q (.exit 0) (m90 a1 a2 a3 a9 a10 a11 x12) S)
def e90_0:L7 se m90 s90_0:=yx
def s90:EV:=fun cf a0 S Post=>Cg 3 true a0 S fun x81 S82=>mm S82 fun x83 S84=>OX (AO 1 x81) fun x85=>OX (AE S84 1 false x85) fun x86=>OX (AK false x86) fun x87=>W cf (.loop [] se) (m90 x81 .top x83 x86 x87 (.n 0) .top) S84 (Af 0 (QS cf cJ (Aw [.t 2] Post)))
def e90:E1 d90 s90:=Uf
def i90:I1 90 s90:=JF d90 (e:=e90)
def s91:Pq:=fun cf a0 a1 a2 S Post=>Cg 1 false a1 S fun x1 S2=>al [.z 2,.z 3,.n 0] S2 fun x3 S4=>OX (A0 cf 159 [a0]) fun x5=>OX (B8 [.z 2,.z 3,.n 0] [(0,1,false,x5)]) fun x6=>al [.z 2,.z 3,.n 0] S4 fun x7 S8=>OX (Ax S8 3 true x7 (.agg x6)) fun S10=>mm S10 fun x11 S12=>OX (O8 (.one .i) S12 x11 (.n 0) (.n 0)) fun S14=>OX (O8 (.one .i) S14 x11 (.n 1) (.n 1)) fun S16=>al [.Cy] S16 fun x17 S18=>OX (Ax S18 1 false x17 x11) fun S20=>al [.top] S20 fun x21 S22=>OX (Ax S22 1 false x21 (.fn 160 [x17,x1,x21,x7])) fun S24=>OX (AE S24 1 false x21) fun x25=>OX (NT x25) fun q27=>OX (cf q27.1 ([a2]++q27.2) S24) fun p28=>OX (AO 2 x7) fun x29=>OX (Ax p28.2 1 false x29 p28.1) fun S31=>OX (AE S31 3 true x7) fun x32=>OX (Ax S31 3 true x3 x32) fun S34=>OX (CE S34 3 true x3) fun x35=>Post x35 S34
def e91:E3 d91 s91:=yG
def i91:I3 91 s91:=mI3 d91 (e:=e91)
def s160:TP5:=fun cf a0 a1 a2 a3 a4 S Post=>OX (AE S 1 false a1) fun x1=>OX (ON (.one .i) true (.n 0) S x1 a0) fun x2=>OX (Ag x2 0) fun x3=>OX (Ag x2 1) fun x4=>WB x4
 (Post x3 S)
 (OX (AE S 1 false a2) fun x5=>OX (A4 .sub .num a0 (.n 2)) fun x6=>OX (Ak 3 x5 x6) fun x7=>OX (AE S 3 true x7) fun x8=>al [.n 0,.n 0,.n 0] S fun x9 S10=>OX (Ax S10 3 true x9 x8) fun S12=>OX (AE S12 1 false a3) fun x13=>OX (AO 1 x9) fun x14=>OX (AE S12 1 false x14) fun x15=>OX (AE S12 1 false a3) fun x16=>OX (AO 2 x9) fun x17=>OX (AE S12 1 false x17) fun x18=>OX (NT x13) fun q20=>OX (cf q20.1 ([x15]++q20.2) S12) fun p21=>OX (AE p21.2 1 false a3) fun x22=>GF x22 x16=true /\
 (OX (AE p21.2 1 false x17) fun x23=>GF x23 x18=true /\
 (OX (AO 1 x9) fun x24=>OX (NT x16) fun q26=>OX (cf q26.1 ([x18]++q26.2) p21.2) fun p27=>OX (Ax p27.2 1 false x24 p21.1) fun S29=>OX (AO 2 x9) fun x30=>OX (Ax S29 1 false x30 p27.1) fun S32=>OX (AO 1 a4) fun x33=>OX (AE S32 1 false x33) fun x34=>OX (AE S32 3 true x9) fun x35=>OX (AV 3 true [x35]) fun x36=>OX (Be 3 false x34 (.sl 3 false x36 .ro) S32) fun p38=>OX (AO 1 a4) fun x39=>OX (Ax p38.2 1 false x39 p38.1) fun S41=>OX (AE S41 1 false a1) fun x42=>OX (AO 1 a4) fun x43=>OX (AE S41 1 false x43) fun x44=>OX (AK false x44) fun x45=>OX (A4 .sub .num x45 (.n 1)) fun x46=>OX (A4 .add .num x46 (.n 2)) fun x47=>OX (O8 (.one .i) S41 x42 a0 x47) fun S49=>OX (AE S49 1 false a1) fun x50=>OX (ON (.one .i) false (.n 0) S49 x50 a0) fun x51=>Post x51 S49)))
def f160:F5 160 s160:=mF5 d160
def s158:Cn:=fun cf a0 a1 S Post=>Cg 3 true a0 S fun x1 S2=>OX (A4 .lss .num a1 (.n 2)) fun x3=>WB x3
 (OX (AO 0 x1) fun x4=>OX (AE S2 1 false x4) fun x5=>OX (AK false x5) fun x6=>Post x6 S2)
 (OX (AO 1 x1) fun x7=>OX (AE S2 1 false x7) fun x8=>OX (A4 .sub .num a1 (.n 2)) fun x9=>OX (Ak 3 x8 x9) fun x10=>OX (AO 0 x10) fun x11=>OX (AE S2 1 false x11) fun x12=>Post x12 S2)
def uX:E2 d158 s158:=PL
def i158:I2 158 s158:=Oc d158 (e:=uX)
abbrev m92(a0 a1 a4 a12 a13 a14:D):List D:=B0 26 [(0,a0),(1,a1),(4,a4),(12,a12),(13,a13),(14,a14)]
def sP:Mi:=fun cf a0 a1 a4 a12 a13 a14 S Q=>Q .ret (m92 .top .top (.b true) .top .top .top) S
def e92_r0:N6 bg m92 sP:=bK
def s92_0:Mi:=fun cf a0 a1 a4 a12 a13 a14 S Q=>OX (A4 .lss .num a13 a12) fun x1=>WB x1
 (OX (Ak 3 a0 a13) fun x2=>OX (AE S 3 true x2) fun x3=>OX (Ak 3 a1 a13) fun x4=>OX (AE S 3 true x4) fun x5=>OX (A4 .neq (.agg [.i,.i,.i]) x3 x5) fun x6=>WB x6
 (Q .ret (m92 .top .top (.b false) .top .top .top) S)
 (OX (A4 .add .num a13 (.n 1)) fun x7=>Q .normal (m92 a0 a1 a4 a12 x7 .top) S))
 (Q (.exit 0) (m92 a0 a1 a4 a12 a13 x1) S)
def e92_0:L6 vV m92 s92_0:=bu
def s92:Cn:=fun cf a0 a1 S Post=>OX (AK false a0) fun x8=>OX (AK false a1) fun x9=>OX (A4 .neq .num x8 x9) fun x10=>WB x10
 (Post (.b false) S)
 (OX (AK false a0) fun x11=>W cf (.loop [] vV) (m92 a0 a1 .top x11 (.n 0) .top) S (Af 0 (QS cf bg (Aw [.t 4] Post))))
def e92:E2 d92 s92:=PL
def i92:I2 92 s92:=Oc d92 (e:=e92)
def s159:EV:=fun cf a0 S Post=>OX (A4 .eql .sl a0 (.z 2)) fun x1=>WB x1
 (Post (.z 2) S)
 (OX (AV 2 true []) fun x2=>OX (Be 2 false (HE 2 x2 S).1 a0 (HE 2 x2 S).2) fun p4=>Post p4.1 p4.2)
def i159:I1 159 s159:=JF d159
def s38:EV:=fun cf a0 S Post=>Cg 3 true a0 S fun x1 S2=>OX (AO 0 x1) fun x3=>OX (AE S2 1 false x3) fun x4=>OX (A0 cf 89 [x4]) fun x5=>OX (ES .not x5) fun x6=>OX (A8 x6 false (AO 1 x1)) fun x7=>OX (A8 x6 false (AE S2 1 false x7)) fun x8=>OX (A8 x6 false (AK false x8)) fun x9=>OX (A8 x6 false (A4 .gtr .num x9 (.n 4096))) fun x10=>OX (AU x6 (.b true) x10) fun x11=>OX (A8 x11 false (AE S2 3 true x1)) fun x12=>OX (A8 x11 false (A0 cf 90 [x12])) fun x13=>OX (A8 x11 false (ES .not x13)) fun x14=>OX (AU x11 (.b true) x14) fun x15=>WB x15
 (Post (.b false) S2)
 (OX (AO 0 x1) fun x16=>OX (AE S2 1 false x16) fun x17=>OX (AO 1 x1) fun x18=>OX (AE S2 1 false x18) fun x19=>OX (AO 2 x1) fun x20=>OX (AE S2 1 false x20) fun x21=>OX (A0 cf 91 [x17,x19,x21]) fun x22=>al [.z 2,.z 3,.n 0] S2 fun x23 S24=>OX (Ax S24 3 true x23 x22) fun S26=>OX (AO 2 x23) fun x27=>OX (AE S26 1 false x27) fun x28=>OX (AO 2 x1) fun x29=>OX (AE S26 1 false x29) fun x30=>OX (A4 .eql .num x28 x30) fun x31=>OX (A8 x31 true (AO 1 x23)) fun x32=>OX (A8 x31 true (AE S26 1 false x32)) fun x33=>OX (A8 x31 true (AO 1 x1)) fun x34=>OX (A8 x31 true (AE S26 1 false x34)) fun x35=>OX (A8 x31 true (A0 cf 92 [x33,x35])) fun x36=>OX (AU x31 x36 (.b false)) fun x37=>Post x37 S26)
def e38:E1 d38 s38:=Uf
def i38:I1 38 s38:=JF d38 (e:=e38)
end Go.Proofs.YtjniafcnjbbomaaGreatDoor.DE
namespace Go.Proofs.YtjniafcnjbbomaaGreatDoor.DE.V
open Go NL
theorem yu(r s:Row):A4 .eql (.agg [.i,.i]) (.agg (Ar r)) (.agg (Ar s))=some (.b (decide (r=s))):=QF r s
def T6(l:List Ch):Prop:=(∀c,c∈l->c.num.length<=4/\c.den.length<=4)/\l.length<=8
def J7(nl:Bool)(l:List Ch):Nat->List D->A1->Prop:=fun q fr S=>∃i a2 a7,q=l.length-i/\i<=l.length/\(∀c,c∈l.take i->c.num.length<=4/\c.den.length<=4)/\S=[] /\
 fr=B0 20 [(0,Ep nl l),(2,a2),(3,.i .i64 i),(7,a7)]
theorem inc_lt{a b:Nat}(h:a<b)(hb:b<=9223372036854775807):A4 .add .num (.i .i64 a) (.i .i64 1)=some (.i .i64 ((a+1:Nat):Int)):=HM (a:=a) (b:=1) (by omega)
open Classical in
theorem v7(nl:Bool)(l:List Ch)(hb:l.length<=9223372036854775807):A0 (call dp) 7 [Ep nl l]=some (.b (decide (T6 l))):=by
 apply i7 _ _ (by simp[A9]) rfl;simp only[s7,JH];generalize hR:QS (call dp) gT _=R;refine AW (J7 nl l) ?_ l.length _ _ ⟨0,.top,.top,by omega,by omega,fun c hc=>by simp at hc,rfl,rfl⟩;rintro q fr S ⟨i,a2,a7,rfl,hi,hv,rfl,rfl⟩;rw[<-Ay,e7_0];by_cases Ap:i<l.length
 .obtain⟨c,hc⟩:∃c,l[i]? = some c:=⟨l[i],gA Ap⟩
  have u31:A0 (call dp) 31 [yE c,.i .i64 4]=some (.b (decide (c.num.length<=4/\c.den.length<=4))):=v31 _ _ _ _ 4;simp only[s7_0,Ob,A5,BH,Ap,decide_true,Al,XP hc,fa_el,zero_add,vP,u31,Cu];by_cases h:c.num.length<=4/\c.den.length<=4
  .simp only[h,and_self,decide_true,Bool.not_true,Ac,inc_lt Ap hb,A5,Ao];refine⟨l.length-(i+1),by omega,i+1,a2,.top,rfl,by omega,?_,rfl,rfl⟩;intro d hd;rw[BV hc] at hd;rcases List.mem_append.1 hd with h'|h'
   .exact hv d h'
   .rw[List.mem_singleton.1 h'];exact h
  .have hn:¬T6 l:=fun k=>h (k.1 c (gC hc));simp only[h,decide_false,Bool.not_false,Al,Ja,Jb];rw[<-hR,PQ,Cb,decide_eq_false hn];rfl
 .have:i=l.length:=by omega
  subst this;rw[take_length] at hv
  have h8:A4 .leq .num (.i .i64 (l.length:Int)) (.i .i64 8)=some (.b (decide (T6 l))):=by rw[RX];congr 2;exact decide_eq_decide.2 ⟨fun h=>⟨hv,by omega⟩,fun h=>by have:=h.2;omega⟩
  simp only[s7_0,Ob,A5,BH,Ap,decide_false,Ac,BC,Av];rw[<-hR];simp only[Ad,e7_r0,s7_r0,Ob,A5,h8];rw[Cb];rfl
def Cx(S S':A1):Prop:=∃T,S'=T++S
theorem Cx.refl(S:A1):Cx S S:=⟨[],rfl⟩
theorem Cx.cons{S S':A1}(h:Cx S S')(e:B9):Cx S (e::S'):=by obtain⟨T,rfl⟩:=h;exact⟨e::T,rfl⟩
theorem Cx.get{S S':A1}(h:Cx S S'){id:Nat}{e:B9}(k:AA S id=some e):AA S' id=some e:=by
 obtain⟨T,rfl⟩:=h
 induction T with
 |nil=>exact k
 |cons x T ih=>exact AM ih
theorem v59(c:Ch)(r:Row)(id:Nat)(S:A1)(hS:AA S id=some (.box (Ar r))):∃S',call dp 59 [.agg (UC c),.bx id 0] S=some (.b (decide (c.1=r)),S')/\Cx S S':=by
 obtain⟨d,S',e,rfl,g⟩:=f59 (.agg (UC c)) (.bx id 0) S (fun d S'=>d=.b (decide (c.1=r))/\Cx S S') (by
  have hc:Am 4 true (.agg (UC c))=some (UC c):=rfl
  have h2:AE (B9.box (UC c)::S) 2 true (.bx id 0)=some (.agg (Ar r)):=by rw[GH,AM hS];rfl
  simp only[s59,Pj,hc,A5,fa_bx,zero_add,Nz,h2,yu]
  exact⟨trivial,(Cx.refl S).cons _⟩)
 exact⟨S',e,g⟩
def J58(nl:Bool)(l:List Ch)(r:Row)(id:Nat)(S:A1):Nat->List D->A1->Prop:=fun q fr S'=>∃i a4 a9,q=l.length-i/\i<=l.length/\(∀c,c∈l.take i->c.1≠r)/\Cx S S' /\
 fr=B0 19 [(0,Ep nl l),(1,.fn 59 [.bx id 0]),(4,a4),(7,.i .i64 l.length),(8,.i .i64 i),(9,a9)]
inductive At(l:List Ch)(r:Row):Int->Option Ch->Prop
 |none:(∀c,c∈l->c.1≠r)->At l r (-1) none
 |some (i:Nat) (c:Ch):l[i]? = some c->c.1=r->(∀c',c'∈l.take i->c'.1≠r)->At l r i (some c)
theorem AA3{l:List Ch}{r:Row}{i:Nat}{c:Ch}(h:l[i]? = some c)(e:c.1=r)(hn:∀c',c'∈l.take i->c'.1≠r):l.find? (fun c=>decide (c.1=r))=some c:=by
 induction l generalizing i with
 |nil=>simp at h
 |cons x l ih=>
  cases i with
  |zero=>
   simp at h;subst h;simp[e]
  |succ i=>
   have hx:x.1≠r:=hn x (by simp);rw[List.find?_cons_of_neg (by simpa using hx)];exact ih (by simpa using h) (fun c' YC=>hn c' (by simp[YC]))
theorem At.find{l:List Ch}{r:Row}{k:Int}{o:Option Ch}(h:At l r k o):l.find? (fun c=>decide (c.1=r))=o:=by
 cases h with
 |none hn=>rw[List.find?_eq_none];intro c hc;simpa using hn c hc
 |some i c h e hn=>exact AA3 h e hn
theorem v58(nl:Bool)(l:List Ch)(r:Row)(id:Nat)(S:A1)(hS:AA S id=some (.box (Ar r)))(hb:Bd l.length):∃k o S',call dp 58 [Ep nl l,.fn 59 [.bx id 0]] S=some (.i .i64 k,S')/\At l r k o/\Cx S S':=by
 obtain⟨d,S',e,k,o,rfl,h,g⟩:=f58 (Ep nl l) (.fn 59 [.bx id 0]) S (fun d S'=>∃k o,d=.i .i64 k/\At l r k o/\Cx S S') (by
  simp only[s58,Ob,A5];generalize hR:QS (call dp) Xy _=R;refine AW (J58 nl l r id S) ?_ l.length _ _ ⟨0,.top,.top,by omega,by omega,fun c hc=>by simp at hc,Cx.refl S,rfl⟩;rintro q fr S' ⟨i,a4,a9,rfl,hi,hv,hg,rfl⟩;rw[<-Ay,e58_0];by_cases Ap:i<l.length
  .obtain⟨c,hc⟩:∃c,l[i]? = some c:=⟨l[i],gA Ap⟩
   obtain⟨S2,e2,g2⟩:=v59 c r id S' (hg.get hS)
   have hg2:Cx S S2:=by obtain⟨T,rfl⟩:=hg;obtain⟨T',rfl⟩:=g2;exact⟨T'++T,by simp⟩
   simp only[tO,BH,Ap,decide_true,Ka,Al,XP hc,ld_ch,A5,SN,cons_append,nil_append,e2];by_cases he:c.1=r
   .simp only[he,decide_true,Al,Ja,Jb];rw[<-hR,PQ,Cb];exact⟨i,some c,rfl,.some i c hc he hv,hg2⟩
   .simp only[he,decide_false,Ac,CG (show Bd i by unfold Bd at *;omega),A5,Ao];refine⟨l.length-(i+1),by omega,i+1,a4,.top,rfl,by omega,?_,hg2,rfl⟩;intro d hd;rw[BV hc] at hd;rcases List.mem_append.1 hd with h'|h'
    .exact hv d h'
    .rw[List.mem_singleton.1 h'];exact he
  .have:i=l.length:=by omega
   subst this;rw[take_length] at hv;simp only[tO,BH,Ap,decide_false,Km,Ac,BC,Av];rw[<-hR];simp only[Ad,e58_r0,rD];rw[Cb]
   exact⟨-1,none,rfl,.none hv,hg⟩)
 exact⟨k,o,S',e,h,g⟩
theorem v60(n1 n2:Bool)(a b:List Nat)(f1:NF n1 a)(f2:NF n2 b)(ba:a.length<=1000)(bb:b.length<=1000):A0 (call dp) 60 [eQ n1 n2 a b]=some (eQ n1 n2 a b):=by apply i60 _ _ (by simp[A9]) (by simp);simp[s60,pW n1 a f1 ba,pW n2 b f2 bb,ZW,st2,CE,eQ]
def yB(l:List Ch)(r:Row):D:=match l.find? (fun c=>decide (c.1=r)) with|some c=>yE c|none=>eQ false false (B1 1) (B1 1)
theorem stq(S:A1)(id:Nat)(x y:D)(n1 n2:Bool)(a b:List Nat)(h:AA S id=some (.box [x,y]))(Post:D->A1->Prop)(hp:∀S',Post (eQ n1 n2 a b) S') :
  OX (Ax S 2 true (.bx id 0) (eQ n1 n2 a b)) fun S'=>OX (CE S' 2 true (.bx id 0)) fun d=>Post d S':=by
 rw[st2q S id x y n1 n2 a b h,A5]
 have:CE (sset S id (B9.box [AD n1 a .ro,AD n2 b .ro])) 2 true (.bx id 0)=some (eQ n1 n2 a b):=by simp only[CE,GH,AR _ (AJ h)];rfl
 rw[this,A5];exact hp _
theorem v17(nl:Bool)(l:List Ch)(r:Row)(Bg:X2 l)(hb:Bd l.length)(hf:∀c,c∈l->c.num.length<=1000/\c.den.length<=1000):A0 (call dp) 17 [.agg (Ar r),Ep nl l]=some (yB l r):=by
 have OC:AG (yB l r)=true:=by unfold yB;split<;>simp[yE]
 apply i17 _ _ _ (by simp[A9]) OC;obtain⟨k,o,S',e,YM,g⟩:=v58 nl l r 0 [.box [.sl 1 true [] .ro,.sl 1 true [] .ro],.box (Ar r)] rfl hb;have hg1:=g.get (id:=1) (e:=.box [.sl 1 true [] .ro,.sl 1 true [] .ro]) rfl;simp only[s17,nR,JH,Pj,Sv,A5,HY,length_cons,List.length_nil,zero_add,e];have l9:=YM.find;cases YM with
 |none hn=>
  have hl:A4 .lss .num (.i .i64 (-1)) (.i .i64 0)=some (.b true):=by rw[Jv];rfl
  simp only[hl,A5,Al,v28];refine stq _ 1 _ _ _ _ _ _ hg1 _ ?_;intro S';unfold yB;rw[l9];rfl
 |some i c h he hn=>
  have hm:=gC h;have hl:A4 .lss .num (.i .i64 (i:Int)) (.i .i64 0)=some (.b false):=by rw[Jv];simp
  have h60:A0 (call dp) 60 [yE c]=some (yE c):=v60 _ _ _ _ (Bg c hm).f1 (Bg c hm).f2 (hf c hm).1 (hf c hm).2;simp only[hl,A5,Ac,XP h,fa_el,zero_add,vP,h60];refine stq _ 1 _ _ _ _ _ _ hg1 _ ?_;intro S';unfold yB;rw[l9];rfl
theorem AAF{nl:Bool}{l:List Row}{i:Nat}{r:Row}(h:l[i]? = some r):Ak 2 (AN nl l) (.i .i64 i)=some (.el (Ar r) 0):=Ee .i64 h
def Kx(d:D):Prop:=∃n1 n2 a b,d=eQ n1 n2 a b
theorem Rq.N0{q:Fq}{d:D}(h:Rq q d):Kx d:=by obtain⟨n1,n2,rfl,_⟩:=h;exact⟨_,_,_,_,rfl⟩
def Bx:D:=eQ true true [] []
theorem CP:Kx Bx:=⟨_,_,_,_,rfl⟩
theorem Kx.cells{d:D}(h:Kx d):∃x y,d=.agg [x,y]/\BF x=true/\BF y=true/\strip d=d:=by obtain⟨n1,n2,a,b,rfl⟩:=h;exact⟨_,_,rfl,rfl,rfl,rfl⟩
theorem Kx.AG{d:D}(h:Kx d):AG d=true:=by obtain⟨n1,n2,a,b,rfl⟩:=h;simp
def Hm(S:A1)(id:Nat)(d:D):Prop:=∃x y,d=.agg [x,y]/\AA S id=some (.box [x,y])
theorem Hm.ld{S:A1}{id:Nat}{d:D}(h:Hm S id d):AE S 2 true (.bx id 0)=some d:=by obtain⟨x,y,rfl,h⟩:=h;rw[GH,h];rfl
theorem Hm.CE{S:A1}{id:Nat}{d:D}(h:Hm S id d):CE S 2 true (.bx id 0)=some d:=h.ld
theorem Hm.grow{S S':A1}{id:Nat}{d:D}(h:Hm S id d)(g:Cx S S'):Hm S' id d:=by obtain⟨x,y,rfl,h⟩:=h;exact⟨x,y,rfl,g.get h⟩
theorem Hm.st{S:A1}{id:Nat}{d d':D}(h:Hm S id d)(h':Kx d'):∃S',Ax S 2 true (.bx id 0) d'=some S'/\Hm S' id d'/\S'.length=S.length/\∀j,j≠id->AA S' j=AA S j:=by obtain⟨x,y,rfl,h⟩:=h;obtain⟨n1,n2,a,b,rfl⟩:=h';exact⟨_,st2q S id x y n1 n2 a b h,⟨_,_,rfl,AR _ (AJ h)⟩,BR _ _ _,fun j hj=>AB _ hj⟩
theorem Hm.ne{S S':A1}{id j:Nat}{d:D}(h:Hm S j d)(k:∀i,i≠id->AA S' i=AA S i)(hj:j≠id):Hm S' j d:=by obtain⟨x,y,rfl,h⟩:=h;exact⟨x,y,rfl,by rw[k j hj];exact h⟩
theorem Hm.top(S:A1){d:D}(h:Kx d):∃x y,Am 2 true d=some [x,y]/\Hm (.box [x,y]::S) S.length d:=by obtain⟨n1,n2,a,b,rfl⟩:=h;exact⟨_,_,rfl,_,_,rfl,Aj _ _⟩
theorem Hm.nil(S:A1):Hm (.box [.sl 1 true [] .ro,.sl 1 true [] .ro]::S) S.length Bx:=⟨_,_,rfl,Aj _ _⟩
def J5(S:A1)(id:Nat)(e:Int):Prop:=AA S id=some (.box [.i .i64 e])
theorem J5.ld{S:A1}{id:Nat}{e:Int}(h:J5 S id e):AE S 1 false (.bx id 0)=some (.i .i64 e):=by rw[GH,h];rfl
theorem Kj(id:Nat):Gm (.bx id 0)=some (.bx id 0):=rfl
theorem TH:D.agg [AD true [] .ro,AD true [] .ro]=Bx:=rfl
structure C1(S S':A1)(id:Nat):Prop where
 len:S.length<=S'.length
 get:∀j,j<S.length->j≠id->AA S' j=AA S j
theorem Cx.keeps{S S':A1}(h:Cx S S')(id:Nat):C1 S S' id:=by
 refine⟨?_,?_⟩
 .obtain⟨T,rfl⟩:=h;simp
 .intro j hj _
  obtain⟨e,he⟩:∃e,AA S j=some e:=by
   clear h
   induction S with
   |nil=>simp at hj
   |cons x S ih=>
    by_cases hc:j=S.length
    .exact⟨x,by simp[hc]⟩
    .simp only[BM,hc,if_false];exact ih (by simp at hj;omega)
  rw[he];exact h.get he
theorem C1.trans{S S' OJ:A1}{id:Nat}(h:C1 S S' id)(k:C1 S' OJ id):C1 S OJ id:=
 ⟨Nat.le_trans h.len k.len,fun j hj CF=>by rw[k.get j (Nat.lt_of_lt_of_le hj h.len) CF,h.get j hj CF]⟩
theorem C1.q{S S':A1}{id j:Nat}{d:D}(h:C1 S S' id)(k:Hm S j d)(hj:j≠id):Hm S' j d:=by obtain⟨x,y,rfl,k⟩:=k;exact⟨x,y,rfl,by rw[h.get j (AJ k) hj];exact k⟩
theorem v94(BW:Nat)(e c:Int)(d:D)(S:A1)(hE:J5 S BW e)(hd:Kx d) :
  ∃S',call dp 94 [.bx BW 0,d,.i .i64 c] S=some (if e=0 then d else Bx,S')/\J5 S' BW (if e=0 then c else e)/\C1 S S' BW:=by
 obtain⟨r,S',e1,rfl,hE',hk⟩:=f94 (.bx BW 0) d (.i .i64 c) S (fun r S'=>r=(if e=0 then d else Bx)/\J5 S' BW (if e=0 then c else e)/\C1 S S' BW) (by
  obtain⟨x,y,hc,hq⟩:=Hm.top S hd;have Qv:=Hm.nil (.box [x,y]::S);have g1:Cx S (.box [.sl 1 true [] .ro,.sl 1 true [] .ro]::.box [x,y]::S):=((Cx.refl S).cons _).cons _;have fh:J5 (.box [.sl 1 true [] .ro,.sl 1 true [] .ro]::.box [x,y]::S) BW e:=g1.get hE;have xT:=hq.grow ((Cx.refl (.box [x,y]::S)).cons (.box [.sl 1 true [] .ro,.sl 1 true [] .ro]));have xe:=AJ hE;generalize Qf:(B9.box [.sl 1 true [] .ro,.sl 1 true [] .ro]::.box [x,y]::S)=S2 at *;have YB:S2.length=S.length+2:=by rw[<-Qf];simp
  have hfa:AO 0 (.bx BW 0)=some (.bx BW 0):=rfl;have CF:A4 .neq .num (.i .i64 e) (.i .i64 0)=some (.b (!decide (e=0))):=by rw[JA]
  simp only[s94,Pj,hc,A5,HY,Kj,hfa,Qf,fh.ld,CF];by_cases h0:e=0
  .simp only[h0,decide_true,Bool.not_true,Ac,A5,if_true]
   have Er:Ax S2 1 false (.bx BW 0) (.i .i64 c)=some (sset S2 BW (.box [.i .i64 c])):=by rw[Y2,fh];rfl
   simp only[Er,A5];have hq1':Hm (sset S2 BW (.box [.i .i64 c])) S.length d:=xT.ne (fun j hj=>AB _ hj) (by omega);have hq2':Hm (sset S2 BW (.box [.i .i64 c])) (List.length (B9.box [x,y]::S)) Bx:=Qv.ne (fun j hj=>AB _ hj) (by simp;omega);obtain⟨S3,e3,q3,l3,k3⟩:=hq2'.st hd;simp only[hq1'.ld,A5,e3,q3.CE];refine⟨trivial,?_,?_⟩
   .show AA S3 BW=_;rw[k3 BW (by simp;omega)];exact AR _ (by omega)
   .refine⟨by rw[l3,BR];omega,fun j hj hj'=>?_⟩;rw[k3 j (by simp;omega),AB _ hj'];exact(g1.keeps BW).get j hj hj'
  .simp only[h0,decide_false,Bool.not_false,Al,SC,A5,TH,if_false];obtain⟨S3,e3,q3,l3,k3⟩:=Qv.st CP;simp only[e3,A5,q3.CE];refine⟨trivial,?_,?_⟩
   .show AA S3 BW=_;rw[k3 BW (by simp;omega)];exact fh
   .refine⟨by rw[l3];omega,fun j hj hj'=>?_⟩;rw[k3 j (by simp;omega)]
    exact(g1.keeps BW).get j hj hj')
 exact⟨S',e1,hE',hk⟩
end Go.Proofs.YtjniafcnjbbomaaGreatDoor.DE.V
namespace Go.Proofs.YtjniafcnjbbomaaGreatDoor.BT
inductive T where
 |leaf (b:Bool)
 |node (v:Nat) (l h:T)
abbrev Nd:=Int×Int×Int
noncomputable instance:DecidableEq T:=fun _ _=>Classical.propDecidable _
def T.size:T->Nat
 |.leaf _=>0
 |.node _ l h=>l.size+h.size+1
noncomputable def pos:List T->T->Nat
 |[],_=>0
 |x::l,t=>if x=t then 0 else pos l t+1
theorem wh{t:T}:∀{L:List T},t∈L->pos L t<L.length
 |x::l,h=>by
  unfold pos;split
  .simp
  .rename_i hx;rcases List.mem_cons.1 h with h|h
   .exact absurd h.symm hx
   .simpa using wh h
theorem P8{t:T}:∀{L:List T},t∈L->L[pos L t]? = some t
 |x::l,h=>by
  unfold pos;split
  .rename_i hx;simp[hx]
  .rename_i hx;rcases List.mem_cons.1 h with h|h
   .exact absurd h.symm hx
   .simpa using P8 h
theorem jq{t:T}(M:List T):∀{L:List T},t∈L->pos (L++M) t=pos L t
 |x::l,h=>by
  simp only[cons_append,pos];split
  .rfl
  .rename_i hx;rcases List.mem_cons.1 h with h|h
   .exact absurd h.symm hx
   .rw[jq M h]
theorem MV{t:T}(M:List T):∀{L:List T},t∉L->pos (L++t::M) t=L.length
 |[],_=>by simp[pos]
 |x::l,h=>by
  simp only[cons_append,pos];split
  .rename_i hx;exact absurd (by simp[hx]) h
  .rw[MV M (fun k=>h (List.mem_cons_of_mem _ k))];rfl
theorem pos_inj{L:List T}{t s:T}(ht:t∈L)(hs:s∈L)(h:pos L t=pos L s):t=s:=by
 have a:=P8 ht;rw[h,P8 hs] at a;injection a with a
 exact a.symm
noncomputable def code(L:List T):T->Int
 |.leaf b=>if b then 1 else 0
 |.node v l h=>(pos L (.node v l h):Int)+2
def sub(L:List T):T->Prop
 |.leaf _=>True
 |.node v l h=>.node v l h∈L
theorem Sf{L M:List T}(h:∀t,t∈L->t∈M):∀{t:T},sub L t->sub M t
 |.leaf _,_=>trivial
 |.node _ _ _,k=>h _ k
theorem W7{L:List T}(M:List T){t:T}(h:sub L t):sub (L++M) t:=Sf (fun _ k=>mem_append_left _ k) h
theorem Hi{L:List T}(M:List T):∀{t:T},sub L t->code (L++M) t=code L t
 |.leaf _,_=>rfl
 |.node _ _ _,h=>by simp only[code];rw[jq M h]
theorem GA{L:List T}:∀{t s:T},sub L t->sub L s->code L t=code L s->t=s
 |.leaf a,.leaf b,_,_,h=>by cases a<;>cases b<;>simp[code] at h ⊢
 |.leaf a,.node _ _ _,_,_,h=>by cases a<;>simp only[code] at h<;>simp at h<;>omega
 |.node _ _ _,.leaf b,_,_,h=>by cases b<;>simp only[code] at h<;>simp at h<;>omega
 |.node _ _ _,.node _ _ _,ht,hs,h=>pos_inj ht hs (by simp only[code] at h;omega)
theorem Cd(L:List T):∀t:T,0<=code L t
 |.leaf a=>by cases a<;>simp[code]
 |.node _ _ _=>by simp only[code];omega
theorem HS{L:List T}:∀{t:T},sub L t->code L t<L.length+2
 |.leaf a,_=>by cases a<;>simp[code]<;>omega
 |.node _ _ _,h=>by simp only[code];have:=wh h;omega
theorem OR(L:List T)(b:Bool):code L (.leaf b)<2:=by cases b<;>simp[code]
theorem Eo(L:List T)(v:Nat)(l h:T):2<=code L (.node v l h):=by simp only[code];omega
noncomputable def nd(L:List T):T->Nd
 |.leaf _=>(0,0,0)
 |.node v l h=>((v:Int),code L l,code L h)
def kids(L:List T):T->Prop
 |.leaf _=>False
 |.node _ l h=>sub L l/\sub L h
theorem MQ{L M:List T}(h:∀t,t∈L->t∈M):∀{t:T},kids L t->kids M t
 |.leaf _,k=>k
 |.node _ _ _,k=>⟨Sf h k.1,Sf h k.2⟩
def ClR:List T->Prop
 |[]=>True
 |t::R=>ClR R/\t∉R/\kids R t
def Cl(L:List T):Prop:=ClR L.reverse
theorem Ny:Cl []:=trivial
theorem ER{L:List T}{t:T}:Cl (L++[t])<->Cl L/\t∉L/\kids L t:=by
 have a:t∉L.reverse<->t∉L:=by simp
 have b:kids L.reverse t<->kids L t:=⟨MQ (fun _ h=>by simpa using h),MQ (fun _ h=>by simpa using h)⟩
 simp only[Cl,List.reverse_append,List.reverse_cons,List.reverse_nil,nil_append,List.singleton_append,ClR,a,b]
theorem Gl{Z:Type}{P:List Z->Prop}(h0:P [])(h1:∀L t,P L->P (L++[t]))(L:List Z):P L:=by
 have:∀R:List Z,P R.reverse:=by
  intro R
  induction R with
  |nil=>exact h0
  |cons t R ih=>rw[List.reverse_cons];exact h1 _ _ ih
 have:=this L.reverse
 rwa [List.reverse_reverse] at this
theorem El{L:List T}:Cl L->∀t,t∈L->kids L t:=by
 induction L using Gl with
 |h0=>intro _ t h;cases h
 |h1 L s ih=>
  intro h t ht;obtain⟨h1,_,h3⟩:=ER.1 h;rcases List.mem_append.1 ht with k|k
  .exact MQ (fun _ q=>mem_append_left _ q) (ih h1 t k)
  .rw[List.mem_singleton.1 k];exact MQ (fun _ q=>mem_append_left _ q) h3
theorem Vq{L:List T}(M:List T):∀{t:T},kids L t->nd (L++M) t=nd L t
 |.node _ _ _,h=>by simp only[nd];rw[Hi M h.1,Hi M h.2]
theorem bj{L:List T}:∀{t s:T},kids L t->kids L s->nd L t=nd L s->t=s
 |.node _ _ _,.node _ _ _,ht,hs,h=>by simp only[nd,Prod.mk.injEq] at h;rw[GA ht.1 hs.1 h.2.1,GA ht.2 hs.2 h.2.2];have:=h.1;congr 1;omega
noncomputable def CH(L:List T):List Nd:=L.map (nd L)
theorem BU(L:List T):(CH L).length=L.length:=by simp[CH]
theorem JP{L:List T}{t:T}(h:Cl (L++[t])):CH (L++[t])=CH L++[nd L t]:=by obtain⟨h1,_,h3⟩:=ER.1 h;simp only[CH,map_append,map_cons,map_nil,Vq [t] h3];congr 1;apply List.map_congr_left;intro s hs;exact Vq [t] (El h1 s hs)
theorem Xp{L:List T}{t:T}(h:t∈L):(CH L)[pos L t]? = some (nd L t):=by simp[CH,P8 h]
theorem kO{L:List T}(h:Cl L){t:T}(k:kids L t):nd L t∈CH L<->t∈L:=by
 constructor
 .intro m;obtain⟨s,hs,e⟩:=List.mem_map.1 m;rw[<-bj (El h s hs) k e];exact hs
 .exact fun m=>List.mem_map.2 ⟨t,m,rfl⟩
noncomputable def post:T->List T->List T
 |.leaf _,M=>M
 |.node v l h,M=>if .node v l h∈M then M else post h (post l M)++[.node v l h]
def Her(P:T->Prop):Prop:=∀v l h,P (.node v l h)->P l/\P h
theorem ZI(n:Nat):Her (fun t=>t.size<=n):=by intro v l h k;simp only[T.size] at k;constructor<;>omega
theorem H7:∀(t:T) (M:List T),Cl M->∃N,post t M=M++N/\Cl (M++N)/\sub (M++N) t/\(∀P,Her P->P t->∀s,s∈N->P s)/\N.length<=t.size
 |.leaf _,M,h=>⟨[],by simp[post],by simpa using h,trivial,(fun _ _ _ _ k=>by cases k),by simp⟩
 |.node v l h,M,hM=>by
  unfold post;by_cases hm : .node v l h∈M
  .rw[if_pos hm];exact⟨[],by simp,by simpa using hM,by simpa[sub] using hm,(fun _ _ _ _ k=>by cases k),by simp⟩
  .rw[if_neg hm];obtain⟨N1,e1,c1,s1,p1,z1⟩:=H7 l M hM;rw[e1];obtain⟨N2,e2,c2,s2,p2,z2⟩:=H7 h (M++N1) c1;rw[e2];refine⟨N1++N2++[.node v l h],by simp,?_,by simp[sub],?_,by simp only[List.length_append,List.length_singleton,T.size];omega⟩
   .have:M++(N1++N2++[T.node v l h])=M++N1++N2++[T.node v l h]:=by simp
    rw[this];refine ER.2 ⟨c2,?_,W7 _ s1,s2⟩;intro k;rcases List.mem_append.1 k with k|k
    .rcases List.mem_append.1 k with k|k
     .exact hm k
     .have:=p1 _ (ZI l.size) (le_refl _) _ k;simp only[T.size] at this;omega
    .have:=p2 _ (ZI h.size) (le_refl _) _ k;simp only[T.size] at this;omega
   .intro P hP hp s hs;rcases List.mem_append.1 hs with hs|hs
    .rcases List.mem_append.1 hs with hs|hs
     .exact p1 P hP (hP _ _ _ hp).1 s hs
     .exact p2 P hP (hP _ _ _ hp).2 s hs
    .rw[List.mem_singleton.1 hs];exact hp
def top(n:Nat):T->Nat
 |.leaf _=>n
 |.node v _ _=>v
def Wf(n:Nat):T->Prop
 |.leaf _=>True
 |.node v l h=>v<n/\v<top n l/\v<top n h/\l≠h/\Wf n l/\Wf n h
theorem Wf_her(n:Nat):Her (Wf n):=fun _ _ _ h=>⟨h.2.2.2.2.1,h.2.2.2.2.2⟩
def fn:T->(Nat->Bool)->Bool
 |.leaf b,_=>b
 |.node v l h,s=>if s v then fn h s else fn l s
theorem Hk{n:Nat}{s r:Nat->Bool}:∀{t:T},Wf n t->(∀i,top n t<=i->i<n->s i=r i)->fn t s=fn t r
 |.leaf _,_,_=>rfl
 |.node v l h,w,e=>by have hl:fn l s=fn l r:=Hk w.2.2.2.2.1 (fun i hi hn=>e i (by have:=w.2.1;simp only[top];omega) hn);have hh:fn h s=fn h r:=Hk w.2.2.2.2.2 (fun i hi hn=>e i (by have:=w.2.2.1;simp only[top];omega) hn);simp only[fn,e v (le_refl _) w.1,hl,hh]
def gI(s:Nat->Bool)(v:Nat)(b:Bool):Nat->Bool:=fun i=>if i=v then b else s i
theorem Xc{n v:Nat}{t:T}(w:Wf n t)(h:v<top n t)(s:Nat->Bool)(b:Bool):fn t (gI s v b)=fn t s:=
 Hk w (fun i hi _=>by
                have:i≠v:=by omega
                simp[gI,this])
theorem pd{n v:Nat}{l h:T}(w:Wf n (.node v l h))(s:Nat->Bool):fn (.node v l h) (gI s v false)=fn l s:=by simp[fn,gI];exact Xc w.2.2.2.2.1 w.2.1 s false
theorem qj{n v:Nat}{l h:T}(w:Wf n (.node v l h))(s:Nat->Bool):fn (.node v l h) (gI s v true)=fn h s:=by simp[fn,gI];exact Xc w.2.2.2.2.2 w.2.2.1 s true
theorem canon{n:Nat}:∀(k:Nat) (t s:T),t.size+s.size<=k->Wf n t->Wf n s->(∀a,fn t a=fn s a)->t=s:=by
 intro k
 induction k with
 |zero=>
  intro t s hk _ _ h;cases t with
  |leaf a=>
   cases s with
   |leaf b=>rw[show a=b from h (fun _=>false)]
   |node _ _ _=>simp[T.size] at hk
  |node _ _ _=>simp[T.size] at hk
 |succ k ih=>
  have key:∀(v:Nat) (l h s:T),(T.node v l h).size+s.size<=k+1->Wf n (.node v l h)->Wf n s->v<top n s->(∀a,fn (.node v l h) a=fn s a)->False:=by
   intro v l h s hk hw hs hv he;have el:∀a,fn l a=fn s a:=fun a=>by rw[<-pd hw a,he,Xc hs hv]
   have eh:∀a,fn h a=fn s a:=fun a=>by rw[<-qj hw a,he,Xc hs hv]
   simp only[T.size] at hk;have a:=ih l s (by omega) hw.2.2.2.2.1 hs el;have b:=ih h s (by omega) hw.2.2.2.2.2 hs eh;exact hw.2.2.2.1 (a.trans b.symm)
  intro t s hk ht hs he;cases t with
  |leaf a=>
   cases s with
   |leaf b=>rw[show a=b from he (fun _=>false)]
   |node v l h=>exact(key v l h (.leaf a) (by rw[Nat.add_comm];exact hk) hs ht hs.1 (fun x=>(he x).symm)).elim
  |node v l h=>
   cases s with
   |leaf b=>exact(key v l h (.leaf b) hk ht hs ht.1 he).elim
   |node v' l' h'=>
    rcases Nat.lt_trichotomy v v' with c|c|c
    .exact(key v l h _ hk ht hs c he).elim
    .subst c;have el:∀a,fn l a=fn l' a:=fun a=>by rw[<-pd ht a,he,pd hs a]
     have eh:∀a,fn h a=fn h' a:=fun a=>by rw[<-qj ht a,he,qj hs a]
     simp only[T.size] at hk;rw[ih l l' (by omega) ht.2.2.2.2.1 hs.2.2.2.2.1 el,ih h h' (by omega) ht.2.2.2.2.2 hs.2.2.2.2.2 eh]
    .exact(key v' l' h' _ (by rw[Nat.add_comm];exact hk) hs ht c (fun x=>(he x).symm)).elim
theorem Wx{n:Nat}:∀{t:T},Wf n t->t.size+1<=2^(n-top n t)
 |.leaf _,_=>by simp[T.size,top]
 |.node v l h,w=>by
  have a:=Wx w.2.2.2.2.1;have b:=Wx w.2.2.2.2.2;have p:2^(n-top n l)<=2^(n-v-1):=Nat.pow_le_pow_right (by omega) (by have:=w.2.1;omega);have q:2^(n-top n h)<=2^(n-v-1):=Nat.pow_le_pow_right (by omega) (by have:=w.2.2.1;omega)
  have e:2^(n-v)=2*2^(n-v-1):=by have:=w.1;rw[show n-v=(n-v-1)+1 by omega,Nat.pow_succ];simp[Nat.mul_comm]
  simp only[T.size,top];omega
def ZT(n:Nat)(ns:List Nd)(r:Int):Int:=if r<2 then n else(ns[(r-2).toNat]?.getD (0,0,0)).1
def mX(n:Nat)(ns:List Nd)(x:Nd):Prop:=
 (0<=x.1/\x.1<n)/\((0<=x.2.1/\x.2.1<ns.length+2)/\(0<=x.2.2/\x.2.2<ns.length+2))/\x.2.1≠x.2.2/\(x.1<ZT n ns x.2.1/\x.1<ZT n ns x.2.2)/\x∉ns
def ShR(n:Nat):List Nd->Prop
 |[]=>True
 |x::R=>ShR n R/\mX n R.reverse x
def Sh(n:Nat)(ns:List Nd):Prop:=ShR n ns.reverse
theorem qI(n:Nat):Sh n []:=trivial
theorem Mk{n:Nat}{ns:List Nd}{x:Nd}:Sh n (ns++[x])<->Sh n ns/\mX n ns x:=by simp[Sh,ShR]
theorem Sh_pre{n:Nat}{ns ms:List Nd}:Sh n (ns++ms)->Sh n ns:=by
 induction ms using Gl with
 |h0=>intro h;simpa using h
 |h1 ms t ih=>intro h;rw[<-List.append_assoc] at h;exact ih (Mk.1 h).1
theorem zw{n:Nat}{ns:List Nd}(ms:List Nd){r:Int}(h:r<ns.length+2):ZT n (ns++ms) r=ZT n ns r:=by
 unfold ZT;split
 .rfl
 .rw[List.getElem?_append_left (by omega)]
theorem JY{n:Nat}{L:List T}:∀{t:T},sub L t->ZT n (CH L) (code L t)=top n t
 |.leaf b,_=>by unfold ZT;rw[if_pos (OR L b)];rfl
 |.node v l h,k=>by
  unfold ZT;have:=Eo L v l h;rw[if_neg (by omega)];have e:(code L (.node v l h)-2).toNat=pos L (.node v l h):=by simp only[code];omega
  rw[e,Xp k];rfl
theorem Tn{L:List T}(hc:Cl L){r:Int}(h0:0<=r)(h1:r<L.length+2):∃t,sub L t/\code L t=r/\(2<=r->t∈L):=by
 rcases Int.lt_or_le r 2 with h|h
 .rcases Int.lt_or_le r 1 with k|k
  .exact⟨.leaf false,trivial,by simp[code];omega,fun q=>absurd q (by omega)⟩
  .exact⟨.leaf true,trivial,by simp[code];omega,fun q=>absurd q (by omega)⟩
 .have hl:(r-2).toNat<L.length:=by omega
  refine⟨L[(r-2).toNat],?_,?_,fun _=>getElem_mem hl⟩
  .have m:L[(r-2).toNat]∈L:=getElem_mem hl;have:=El hc _ m;revert this m;cases L[(r-2).toNat] with
   |leaf _=>intro _ h;exact h.elim
   |node _ _ _=>intro m _;exact m
  .have m:L[(
         r-2).toNat]∈L:=getElem_mem hl
   have hk:=El hc _ m
   have hp:pos L L[(r-2).toNat]=(r-2).toNat:=by
    have nodup:∀{M:List T},Cl M->∀(i j:Nat) (x:T),M[i]? = some x->M[j]? = some x->i=j:=by
     intro M
     induction M using Gl with
     |h0=>intro _ i j x h;simp at h
     |h1 M s ih=>
      intro hM i j x hi hj;obtain⟨c1,c2,_⟩:=ER.1 hM
      have get:∀i,(M++[s])[i]? = some x->(i<M.length/\M[i]? = some x)\/(i=M.length/\x=s):=by
       intro i h;rcases Nat.lt_or_ge i M.length with q|q
       .left;rw[List.getElem?_append_left q] at h;exact⟨q,h⟩
       .right;rw[List.getElem?_append_right q] at h
        have:i-M.length=0:=by
         rcases Nat.eq_zero_or_pos (i-M.length) with z|z
         .exact z
         .rw[List.getElem?_eq_none (by simp;omega)] at h;cases h
        rw[this] at h;simp at h;exact⟨by omega,h.symm⟩
      rcases get i hi with⟨a,b⟩|⟨a,b⟩<;>rcases get j hj with⟨c,d⟩|⟨c,d⟩
      .exact ih c1 i j x b d
      .subst d;exact absurd (List.mem_of_getElem? b) c2
      .subst b;exact absurd (List.mem_of_getElem? d) c2
      .omega
    exact nodup hc _ _ _ (P8 m) (List.getElem?_eq_getElem hl)
   revert hp hk;cases L[(r-2).toNat] with
   |leaf _=>intro h;exact h.elim
   |node _ _ _=>intro _ hp;simp only[code,hp];omega
theorem Zl{n:Nat}{ns:List Nd}:Sh n ns->∃L,Cl L/\ns=CH L/\∀t,t∈L->Wf n t:=by
 induction ns using Gl with
 |h0=>intro _;exact⟨[],Ny,rfl,fun _ h=>by cases h⟩
 |h1 ns x ih=>
  intro h;obtain⟨h1,⟨hv,hv'⟩,⟨hl,hh⟩,CF,⟨kl,kh⟩,hx⟩:=Mk.1 h;obtain⟨L,hc,e,hw⟩:=ih h1;subst e;rw[BU] at hl hh;obtain⟨l,sl,el,_⟩:=Tn hc hl.1 hl.2;obtain⟨t,st,et,_⟩:=Tn hc hh.1 hh.2
  have wf:∀{t:T},sub L t->Wf n t:=by
   intro t;cases t with
   |leaf _=>intro _;trivial
   |node _ _ _=>exact fun k=>hw _ k
  rw[<-el,JY sl] at kl;rw[<-et,JY st] at kh;have hk:kids L (.node x.1.toNat l t):=⟨sl,st⟩
  have hn:nd L (.node x.1.toNat l t)=x:=by simp only[nd,el,et];rw[Int.toNat_of_nonneg hv]
  have hm:T.node x.1.toNat l t∉L:=fun m=>hx (by rw[<-hn];exact(kO hc hk).2 m);have YC:Cl (L++[.node x.1.toNat l t]):=ER.2 ⟨hc,hm,hk⟩;refine⟨L++[.node x.1.toNat l t],YC,?_,?_⟩
  .rw[JP YC,hn]
  .intro s hs;rcases List.mem_append.1 hs with q|q
   .exact hw s q
   .rw[List.mem_singleton.1 q];refine⟨by omega,by omega,by omega,?_,wf sl,wf st⟩;intro e;apply CF;rw[<-el,<-et,e]
theorem uJ{n:Nat}{L:List T}:Cl L->(∀t,t∈L->Wf n t)->Sh n (CH L):=by
 induction L using Gl with
 |h0=>intro _ _;exact qI n
 |h1 L t ih=>
  intro hc hw;obtain⟨c1,c2,c3⟩:=ER.1 hc;rw[JP hc];refine Mk.2 ⟨ih c1 (fun s hs=>hw s (mem_append_left _ hs)),?_⟩;have w:=hw t (by simp);have hx:nd L t∉CH L:=fun m=>c2 ((kO c1 c3).1 m);revert w c3 hx;cases t with
  |leaf _=>intro h;exact h.elim
  |node v l h=>
   intro c3 w hx;have a:=HS c3.1;have b:=HS c3.2;have a0:=Cd L l;have b0:=Cd L h;refine⟨⟨?_,?_⟩,⟨⟨?_,?_⟩,⟨?_,?_⟩⟩,?_,⟨?_,?_⟩,hx⟩
   .simp only[nd];omega
   .have:=w.1;simp only[nd];omega
   .exact a0
   .rw[BU];exact a
   .exact b0
   .rw[BU];exact b
   .exact fun e=>w.2.2.2.1 (GA c3.1 c3.2 e)
   .show(v:Int)<ZT n (CH L) (code L l);rw[JY c3.1];have:=w.2.1;omega
   .show(v:Int)<ZT n (CH L) (code L h);rw[JY c3.2];have:=w.2.2.1;omega
theorem Wl{L:List T}:∀{L':List T},Cl L->Cl L'->CH L=CH L'->L=L':=by
 induction L using Gl with
 |h0=>
  intro L' _ _ e;have:=congrArg List.length e;rw[BU,BU] at this;exact(List.length_eq_zero_iff.1 this.symm).symm
 |h1 L t ih=>
  intro L'
  induction L' using Gl with
  |h0=>
   intro _ _ e;have:=congrArg List.length e;rw[BU,BU] at this;simp at this
  |h1 L' t' _=>
   intro h h' e;rw[JP h,JP h'] at e;obtain⟨e1,e2⟩:=List.append_inj' e rfl;obtain⟨a,_,a3⟩:=ER.1 h;obtain⟨b,_,b3⟩:=ER.1 h';have:=ih a b e1;subst this;simp only[List.cons.injEq,and_true] at e2;rw[bj a3 b3 e2]
def Cano(ns:List Nd)(root:Int)(t:T):Prop:=ns=CH (post t [])/\root=code (post t []) t
theorem tw{L:List T}(hc:Cl L){t:T}(ht:sub L t):(∃t',Cano (CH L) (code L t) t')<->post t []=L:=by
 constructor
 .rintro⟨t',e1,e2⟩;obtain⟨N,e,c,s,_⟩:=H7 t' [] Ny;rw[nil_append] at e c s;rw[e] at e1 e2;have:=Wl hc c e1;subst this;rw[<-GA ht s e2] at e;exact e
 .intro e;exact⟨t,by rw[Cano,e];exact⟨rfl,rfl⟩⟩
end Go.Proofs.YtjniafcnjbbomaaGreatDoor.BT
namespace Go.Proofs.YtjniafcnjbbomaaGreatDoor.DE.V
open Go BT
theorem AAn(r:Row):A0 (call dp) 52 [.agg (Ar r)]=some (.b (NM r)):=by rw[v52];simp[NM]
theorem wJ(nl B3:Bool)(ord:List Row)(ns:List Nd)(root r:Int)(h0:KF r)(h:r<ns.length+2):A0 (call dp) 158 [eB nl B3 ord ns root,.i .i64 r]=some (.i .i64 (ZT ord.length ns r)):=by
 apply i158 _ _ _ (by simp[A9,AG]) rfl;simp[s158];split
 .simp[ZT, *]
 .obtain⟨x,hx⟩:∃x,ns[(r-2).toNat]? = some x:=⟨_,gA (by omega)⟩
  rw[wrap64 (n:=r-2) ⟨by have:=h0.1;have:=h0.2;omega,by have:=h0.2;omega⟩,Td _ (by omega) hx];simp[ZT, *]
theorem v92(nl B3:Bool)(l m:List Nd)(hb:Bd m.length):A0 (call dp) 92 [Cm nl l,Cm B3 m]=some (.b (decide (l=m))):=by
 apply i92 _ _ _ (by simp[A9]) rfl;simp[s92];by_cases hl:l.length=m.length
 .simp only[hl,if_true]
  let J:Nat->List D->A1->Prop:=fun q fr S=>∃k a4 a14,k+q=m.length/\l.take k=m.take k/\S=[]/\fr=B0 26 [(0,Cm nl l),(1,Cm B3 m),(4,a4),(12,.i .i64 m.length),(13,.i .i64 k),(14,a14)]
  refine AW J ?_ m.length _ _ ⟨0,_,_,by simp,by simp,rfl,rfl⟩;rintro q fr S ⟨k,a4,a14,hk,he,rfl,rfl⟩;rw[<-Ay,e92_0];simp[s92_0];split
  .rename_i h;obtain⟨x,hx⟩:∃x,l[k]? = some x:=⟨_,gA (by omega)⟩
   obtain⟨y,hy⟩:∃x,m[k]? = some x:=⟨_,gA (by omega)⟩
   simp[LN _ hx,LN _ hy];by_cases Vc:x=y
   .subst Vc;simp[Bz (hb.lt (Nat.le_of_lt h))];exact⟨q-1,by omega,k+1,_,_,by omega,Md he hx hy,rfl,rfl⟩
   .simp[Vc];exact fun e=>Vc (by rw[e,hy] at hx;injection hx with hx;exact hx.symm)
  .simp[e92_r0,sP];exact Mc he (by omega) (by omega)
 .rw[if_neg (by omega)];exact fun h=>hl (by rw[h])
theorem v159(nl:Bool)(l:List Row)(h:nl=true->l=[])(hb:l.length<=AP):A0 (call dp) 159 [AN nl l]=some (AN nl l):=by
 apply i159 _ _ (by simp[A9]) (by simp);simp[s159];split<;>rename_i hn
 .subst hn;rw[h rfl];rfl
 .have hn:nl=false:=by simpa using hn
  subst hn;have h1:(l.map Ar).length<=AP:=by simpa using hb
  simp only[AN,H8,A5,Ru,MB _ h1];split
  .rename_i e;rw[e];rfl
  .rfl
def CW(l:List Row):Prop:=(∀r,r∈l->NM r=true)/\l.Nodup
open Classical in
theorem v89(nl:Bool)(l:List Row)(hb:Bd l.length):A0 (call dp) 89 [AN nl l]=some (.b (decide (CW l/\l.length<=4096))):=by
 apply i89 _ _ (by simp[A9]) rfl;simp[s89]
 let J:Nat->List D->A1->Prop:=fun q fr S=>∃k a2 a10,k+q=l.length/\CW (l.take k)/\AA S 0=some (.map (C8 (fun r:Row=>.agg (Ar r)) D.b ((l.take k).map fun r=>(r,true))))/\fr=B0 27 [(0,AN nl l),(2,a2),(3,.mp 0),(7,AN nl l),(8,.i .i64 l.length),(9,.i .i64 k),(10,a10)]
 refine AW J ?_ l.length _ _ ⟨0,_,_,by simp,by simp[CW],rfl,rfl⟩;rintro q fr S ⟨k,a2,a10,hk,ho,hS,rfl⟩;rw[<-Ay,e89_0];have Ap:=AJ hS;have CF:S≠[]:=by intro e;simp[e] at Ap
 simp[s89_0];split
 .rename_i h;obtain⟨x,hx⟩:∃x,l[k]? = some x:=⟨_,gA (by omega)⟩
  simp[Ee _ hx,AAn,CF,hS];have hS':AA (B9.box (Ar x)::S) 0=_:=AM hS
  have Q2:x∈l.take k\/assoc x ((l.take k).map fun r=>(r,true))=none:=by
   by_cases hm:x∈l.take k
   .exact .inl hm
   .right;rw[GO];intro p hp e;obtain⟨y,hy,rfl⟩:=List.mem_map.1 hp;exact hm (e▸hy)
  have ht:l.take (k+1)=l.take k++[x]:=by rw[List.take_add_one,hx];rfl
  have hin':¬CW (l.take (k+1))->¬CW l:=by intro h1 h2;exact h1 ⟨fun r hr=>h2.1 r (List.mem_of_mem_take hr),h2.2.sublist (List.take_sublist _ _)⟩
  split<;>rename_i hr
  .rcases Q2 with hm|ha
   .have fg:assoc x ((l.take k).map fun r=>(r,true))=some true:=by
     cases ha:assoc x ((l.take k).map fun r=>(r,true)) with
     |none=>exact absurd rfl (GO.1 ha (x,true) (List.mem_map.2 ⟨x,hm,rfl⟩))
     |some b=>
      have:∀(m:List Row) b,assoc x (m.map fun r=>(r,true))=some b->b=true:=by
       intro m
       induction m with
       |nil=>intro b h;cases h
       |cons y m ih=>
        intro b h;simp only[map_cons,assoc] at h;split at h
        .injection h with h;exact h.symm
        .exact ih b h
      rw[this _ b ha]
    rw[Gk Kh (a:=x) (GV x) hS',fg];simp;intro ho';refine absurd ho' (hin' ?_);rw[ht];intro h1;have:=h1.2;rw[nodup_append] at this;exact this.2.2 x hm x (by simp) rfl
   .rw[Gk Kh (a:=x) (GV x) hS',ha];simp;rw[KT Kh (a:=x) (b:=true) (GV x) hS' ha];simp only[A5,EB,Bz (hb.lt (Nat.le_of_lt h)),Ao];have hnm:x∉l.take k:=fun hm=>(GO.1 ha (x,true) (List.mem_map.2 ⟨x,hm,rfl⟩)) rfl;refine⟨q-1,by omega,k+1,_,_,by omega,?_,?_,rfl⟩
    .rw[ht];refine⟨?_,?_⟩
     .intro r pH;rcases List.mem_append.1 pH with pH|pH
      .exact ho.1 r pH
      .rw[List.mem_singleton.1 pH];exact hr
     .rw[nodup_append];refine⟨ho.2,by simp,?_⟩;intro a ha' b YJ e;rw[List.mem_singleton.1 YJ] at e;exact hnm (e▸ha')
    .rw[ht,map_append];exact AR _ (by simp)
  .intro ho';exact absurd (ho'.1 x (gC hx)) hr
 .have:l.take k=l:=List.take_of_length_le (by omega);rw[this] at ho;simp[e89_r0,sY,ho];split<;>omega
theorem SM{Z:Type}{l:List Z}{x:Z}:(l++[x]).Nodup<->l.Nodup/\x∉l:=by
 rw[nodup_append];constructor
 .exact fun h=>⟨h.1,fun k=>h.2.2 x k x (by simp) rfl⟩
 .exact fun h=>⟨h.1,by simp,fun a ha b hb e=>h.2 (by rw[List.mem_singleton.1 hb] at e;exact e▸ha)⟩
theorem ji{n:Nat}{ns:List Nd}(k:Nat)(h:Sh n ns):Sh n (ns.take k):=Sh_pre (ms:=ns.drop k) (by rwa [List.take_append_drop])
theorem Zo{n k:Nat}{ns:List Nd}{r:Int}(h:r<k+2)(hk:k<=ns.length):ZT n (ns.take k) r=ZT n ns r:=by have:=zw (n:=n) (ns:=ns.take k) (ns.drop k) (r:=r) (by rw[List.length_take];omega);rw[List.take_append_drop] at this;exact this.symm
theorem Nx{Z:Type}[DecidableEq Z](x:Z):∀l:List Z,assoc x (l.map fun r=>(r,true))=if x∈l then some true else none
 |[]=>by simp[assoc]
 |y::l=>by simp only[map_cons,assoc,Nx x l,List.mem_cons];by_cases h:x=y<;>simp[h]
theorem seenD{Z:Type}[DecidableEq Z]{kk:KK}{ek:Z->D}(h:Ng kk ek){a:Z}(hk:isKey kk (ek a)=true){S:A1}{id:Nat}{l:List Z}(hS:AA S id=some (.map (C8 ek D.b (l.map fun r=>(r,true))))) :
  ON kk false (.b false) S (.mp id) (ek a)=some (.b (decide (a∈l))):=by
 rw[Gk h hk hS,Nx];split<;>simp[*]
theorem seenU{Z:Type}[DecidableEq Z]{kk:KK}{ek:Z->D}(h:Ng kk ek){a:Z}(hk:isKey kk (ek a)=true){S:A1}{id:Nat}{l:List Z}(hS:AA S id=some (.map (C8 ek D.b (l.map fun r=>(r,true)))))(ha:a∉l) :
  O8 kk S (.mp id) (ek a) (.b true)=some (sset S id (.map (C8 ek D.b ((l++[a]).map fun r=>(r,true))))):=by
 rw[KT h hk hS (ev:=D.b) (b:=true) (by rw[Nx,if_neg ha])];simp
open Classical in
theorem v90(nl B3:Bool)(ord:List Row)(ns:List Nd)(root:Int)(hb:Bd (ns.length+2)) :
  A0 (call dp) 90 [eB nl B3 ord ns root]=some (.b (decide (Sh ord.length ns/\0<=root/\root<ns.length+2))):=by
 obtain⟨c,hc⟩:∃c,c=decide (Sh ord.length ns/\0<=root/\root<ns.length+2):=⟨_,rfl⟩
 rw[<-hc];apply i90 _ _ (by simp[A9]) rfl;simp[s90]
 let J:Nat->List D->A1->Prop:=fun q fr S=>∃k a2 a12,k+q=ns.length/\Sh ord.length (ns.take k)/\AA S 0=some (.box [AN nl ord,Cm B3 ns,.i .i64 root])/\AA S 1=some (.map (C8 (fun r:Nd=>.agg (C5 r)) D.b ((ns.take k).map fun r=>(r,true)))) /\
  fr=B0 98 [(1,.bx 0 0),(2,a2),(3,.mp 1),(9,Cm B3 ns),(10,.i .i64 ns.length),(11,.i .i64 k),(12,a12)]
 refine AW J ?_ ns.length _ _ ⟨0,_,_,by simp,by simp[qI],by simp,by simp[C8],rfl⟩;rintro q fr S ⟨k,a2,a12,hk,ho,YQ,YR,rfl⟩;rw[<-Ay,e90_0];simp[s90_0];split
 .rename_i h;obtain⟨x,hx⟩:∃x,ns[k]? = some x:=⟨_,gA (by omega)⟩
  have ht:=BV hx;have Ap:=AJ YR;have CF:S≠[]:=by intro e;simp[e] at Ap
  have h1ne:¬1=S.length:=by omega
  have h0ne:¬0=S.length:=by omega
  have w2:IntKind.i64.wrap ((k:Int)+2)=k+2:=wrap64 ⟨by omega,by unfold Bd at hb;omega⟩;have Bg:Sh ord.length ns->mX ord.length (ns.take k) x:=fun hs=>(Mk.1 (ht▸ji (k+1) hs)).2;have hok':mX ord.length (ns.take k) x->Sh ord.length (ns.take (k+1)):=fun h=>by rw[ht];exact Mk.2 ⟨ho,h⟩
  have hl:(ns.take k).length=k:=by rw[List.length_take];omega
  have hS1':AA (B9.box (C5 x)::S) 1=_:=AM YR;have hS0':AA (B9.box (C5 x)::S) 0=_:=AM YQ;have xf:=seenD Xf (OS x) hS1';by_cases Q2:0<=x.2.1/\0<=x.2.2/\x.2.1<k+2/\x.2.2<k+2
  .obtain⟨i1,i2,i3,i4⟩:=Q2;have e1:=wJ nl B3 ord ns root x.2.1 ⟨by omega,by unfold Bd at hb;omega⟩ (by omega);have e2:=wJ nl B3 ord ns root x.2.2 ⟨by omega,by unfold Bd at hb;omega⟩ (by omega);rw[<-Zo i3 (by omega)] at e1;rw[<-Zo i4 (by omega)] at e2;simp only[eB] at e1 e2;by_cases fg:mX ord.length (ns.take k) x
   .obtain⟨⟨c1,c2⟩,-,c3,⟨c4,c5⟩,c6⟩:=fg;have hu:=seenU Xf (OS x) hS1' c6;have f1:¬x.1<0:=by omega
    have f2:¬(ord.length:Int)<=x.1:=by omega
    have f4:¬ZT ord.length (ns.take k) x.2.1<=x.1:=by omega
    have f5:¬ZT ord.length (ns.take k) x.2.2<=x.1:=by omega
    simp[-Ca,LN _ hx,w2,YQ,h0ne,i1,i2,i3,i4,e1,e2,f1,f2,c3,f4,f5,c6,xf,hu,Bz (show Bd k by unfold Bd at *;omega)];refine⟨q-1,by omega,k+1,_,_,by omega,hok' ⟨⟨c1,c2⟩,by rw[hl];exact⟨⟨i1,i3⟩,⟨i2,i4⟩⟩,c3,⟨c4,c5⟩,c6⟩,?_,?_,rfl⟩
    .rw[AB _ (by omega)];exact hS0'
    .have:=AR (B9.map (C8 (fun r:Nd=>.agg (C5 r)) D.b ((ns.take k++[x]).map fun r=>(r,true)))) (AJ hS1');rw[ht];simpa[-Ca] using this
   .have OC:c=false:=by rw[hc];exact decide_eq_false fun hs=>fg (Bg hs.1)
    simp[LN _ hx,w2,YQ,h0ne,i1,i2,i3,i4,e1,e2,xf,OC];intro f1 f2 f3 f4 f5 f6;exact absurd ⟨⟨f1,f2⟩,by rw[hl];exact⟨⟨i1,i3⟩,⟨i2,i4⟩⟩,f3,⟨f5,f6⟩,f4⟩ fg
  .have OC:c=false:=by rw[hc];exact decide_eq_false fun hs=>Q2 (by have:=(Bg hs.1).2.1;rw[hl] at this;omega)
   simp[LN _ hx,w2,YQ,h0ne,xf,OC];intro i1 i2 i3 i4;exact absurd ⟨i1,i2,i3,i4⟩ Q2
 .have:ns.take k=ns:=List.take_of_length_le (by omega);rw[this] at ho;simp[e90_r0,wL,ho,YQ];rw[wrap64 ⟨by omega,by unfold Bd at hb;omega⟩];simp[ho] at hc;by_cases h1:0<=root
  .by_cases h2:root<ns.length+2
   .simp[h1,h2,hc]
   .simp[h1,h2,hc]
  .simp[h1,hc]
def Gi(S S':A1):Prop:=∀id cs,AA S id=some (.box cs)->AA S' id=some (.box cs)
theorem Gi.refl(S:A1):Gi S S:=fun _ _ h=>h
theorem Gi.trans{S S' OJ:A1}(h:Gi S S')(k:Gi S' OJ):Gi S OJ:=fun id cs e=>k id cs (h id cs e)
theorem Gi.push(e:B9)(S:A1):Gi S (e::S):=fun _ _ h=>AM h
theorem Gi.tok{S:A1}{t:Nat}{b:Bool}(c:Bool)(h:AA S t=some (.tok b)):Gi S (sset S t (.tok c)):=by
 intro id cs e;rw[AB]
 .exact e
 .rintro rfl;rw[h] at e;cases e
def Mj(S:A1)(nl:Bool)(n:Nat)(o:JB):Prop:=(nl=true/\n=0/\o=.ro)\/(nl=false/\∃t,o=.tok t/\AA S t=some (.tok true))
theorem Mj.push{S:A1}{nl:Bool}{n:Nat}{o:JB}(e:B9)(h:Mj S nl n o):Mj (e::S) nl n o:=by
 rcases h with h|⟨h,t,ho,ht⟩
 .exact .inl h
 .exact .inr ⟨h,t,ho,AM ht⟩
theorem LR{k:Nat}{nl n':Bool}{xs:List (List D)}{ys:List (List D)}{o o':JB}{S:A1}(h:Mj S nl xs.length o)(hl:xs.length+ys.length<=AP)(hy:ys≠[]) :
  ∃t S',Be k false (.sl k nl xs o) (.sl k n' ys o') S=some (.sl k false (xs++ys) (.tok t),S')/\AA S' t=some (.tok true)/\Gi S S'/\(∀id es,AA S id=some (.map es)->AA S' id=some (.map es))/\S'.length=S.length+1/\t=S.length/\∀id e,AA S id=some e->(∀t,o=.tok t->id≠t)->AA S' id=some e:=by
 rcases h with⟨h1,h2,h3⟩|⟨h1,t,ho,ht⟩
 .subst h1 h3;have:xs=[]:=List.length_eq_zero_iff.1 h2;subst this;refine⟨S.length,.tok true::S,?_,by simp,Gi.push _ _,fun _ _ e=>AM e,by simp,rfl,fun _ _ e _=>AM e⟩;rw[iD (o:=.ro) S (by simpa using hl) (by intro t e;cases e),if_neg hy];rfl
 .subst h1 ho;refine⟨S.length,.tok true::sset S t (.tok false),Mr S hl ht,?_,?_,?_,by simp[BR],rfl,fun id e he CF=>AM (by rw[AB _ (CF t rfl)];exact he)⟩
  .have:=Aj (B9.tok true) (sset S t (.tok false))
   rwa [BR] at this
  .exact(Gi.tok false ht).trans (Gi.push _ _)
  .intro id es e;apply AM;rw[AB]
   .exact e
   .rintro rfl;rw[ht] at e;cases e
theorem AAR{L:List T}(h:Cl L):Her (sub L):=fun _ _ _ k=>El h _ k
theorem vB{L:List T}:Cl L->L.Nodup:=by
 induction L using Gl with
 |h0=>intro _;simp
 |h1 L t ih=>intro h;obtain⟨a,b,_⟩:=ER.1 h;exact SM.2 ⟨ih a,b⟩
theorem Ku{Z:Type}[DecidableEq Z]:∀{M L:List Z},M.Nodup->(∀x,x∈M->x∈L)->M.length<=L.length
 |[],_,_,_=>Nat.zero_le _
 |x::M,L,hn,hs=>by have hx:x∈L:=hs x (by simp);have Rp:=List.nodup_cons.1 hn;have:=Ku (M:=M) (L:=L.erase x) Rp.2 (fun y hy=>(List.mem_erase_of_ne (by rintro rfl;exact Rp.1 hy)).2 (hs y (List.mem_cons_of_mem _ hy)));rw[List.length_erase_of_mem hx] at this;have:=List.length_pos_of_mem hx;simp only[length_cons];omega
theorem R9{L M:List T}{t:T}(hL:Cl L)(hM:Cl M)(hs:∀s,s∈M->s∈L)(ht:sub L t):Cl (post t M)/\sub (post t M) t/\(∀s,s∈post t M->s∈L)/\(post t M).length<=L.length:=by
 obtain⟨N,e,c,st,p,_⟩:=H7 t M hM;rw[e]
 have Q2:∀s,s∈M++N->s∈L:=by
  intro s h;have hk:=El c s h;rcases List.mem_append.1 h with h|h
  .exact hs s h
  .have:=p _ (AAR hL) ht s h;revert hk this;cases s with
   |leaf _=>exact fun h=>h.elim
   |node _ _ _=>exact fun _ h=>h
 exact⟨c,st,Q2,Ku (vB c) Q2⟩
def VB(ord:List Row)(ns:List Nd)(root:Int):Prop:=
 (CW ord/\ord.length<=4096)/\ns.length<=4096/\(Sh ord.length ns/\0<=root/\root<ns.length+2)/\∃t,Cano ns root t
theorem ko{n:Nat}{ns:List Nd}{k:Nat}{x:Nd}(hx:ns[k]? = some x)(h:Sh n ns):mX n (ns.take k) x:=
 (Mk.1 (BV hx▸ji (k+1) h)).2
theorem XF{L:List T}(hL:Cl L):∀x,x∈L->sub L x:=by
 intro x hx;have:=El hL x hx;revert this hx;cases x with
 |leaf _=>exact fun _ h=>h.elim
 |node _ _ _=>exact fun h _=>h
def PU(p:Nat->Prop)(S S':A1):Prop:=∀id e,¬p id->AA S id=some e->AA S' id=some e
theorem PU.push(p:Nat->Prop)(e:B9)(S:A1):PU p S (e::S):=fun _ _ _ h=>AM h
theorem PU.sset{p:Nat->Prop}{S:A1}(id:Nat)(x:B9)(h:p id):PU p S (sset S id x):=fun j e hj k=>by
 rw[AB]
 .exact k
 .rintro rfl;exact hj h
theorem PU.trans{p:Nat->Prop}{S S' OJ:A1}(h:PU p S S')(k:PU p S' OJ):PU p S OJ:=fun id e hp he=>k id e hp (h id e hp he)
noncomputable def TF(L M:List T):List (Int×Int):=(0,0)::(1,1)::M.map fun s=>(code L s,code M s)
def eI(n:Int):D:=.i .i64 n
def mg(B3:Bool)(q r:D)(L:List T)(i1 i2 i3 i4 im:Nat)(M:List T)(S:A1):Prop:=
 AA S i1=some (.box [.mp im])/\AA S im=some (.map (C8 eI eI (TF L M)))/\AA S i2=some (.box [Cm B3 (CH L)]) /\
 AA S i3=some (.box [.fn 160 [.bx i1 0,.bx i2 0,.bx i3 0,.bx i4 0]])/\∃n o,AA S i4=some (.box [q,.sl 3 n ((CH M).map C5) o,r])/\Mj S n M.length o
def Es(p:Nat)(S S':A1):Prop:=∀id cs,id≠p->AA S id=some (.box cs)->AA S' id=some (.box cs)
theorem Es.push(p:Nat)(e:B9)(S:A1):Es p S (e::S):=fun _ _ _ h=>AM h
theorem Es.refl(p:Nat)(S:A1):Es p S S:=fun _ _ _ h=>h
theorem Sk{L:List T}{M:List T}(hM:∀s,s∈M->sub L s){t:T}(ht:sub L t)(f:T->Int):∀(h:∀v l h,t=.node v l h->True),assoc (code L t) (M.map fun s=>(code L s,f s))=if t∈M then some (f t) else none:=by
 intro _
 induction M with
 |nil=>simp[assoc]
 |cons s M ih=>
  simp only[map_cons,assoc];have ih:=ih (fun s hs=>hM s (List.mem_cons_of_mem _ hs));by_cases e:t=s
  .subst e;simp
  .have:code L t≠code L s:=fun h=>e (GA ht (hM s (by simp)) h);simp[this,ih,e]
theorem RB:Ng (.one .i) eI:=keyE_i
theorem deq_i(n:Int):GF (.i .i64 n) (.i .i64 n)=true:=by simp[GF]
theorem deq_fn4(a b c d:Nat):GF (.fn 160 [.bx a 0,.bx b 0,.bx c 0,.bx d 0]) (.fn 160 [.bx a 0,.bx b 0,.bx c 0,.bx d 0])=true:=by simp[GF,Lm]
theorem Us{B3:Bool}{q r:D}{L:List T}{i1 i2 i3 i4 im:Nat}{M:List T}{S S':A1}{p:Nat->Prop}(h:mg B3 q r L i1 i2 i3 i4 im M S)(hk:PU p S S')
  (p1:¬p i1) (p2:¬p i2) (p3:¬p i3) (p4:¬p i4) (pm:¬p im) (pt:∀t,p t->AA S t≠some (.tok true)):mg B3 q r L i1 i2 i3 i4 im M S':=by
 obtain⟨a,b,c,d,n,o,e,l⟩:=h;refine⟨hk _ _ p1 a,hk _ _ pm b,hk _ _ p2 c,hk _ _ p3 d,n,o,hk _ _ p4 e,?_⟩;rcases l with l|⟨l1,t,l2,l3⟩
 .exact .inl l
 .exact .inr ⟨l1,t,l2,hk _ _ (fun k=>pt t k l3) l3⟩
theorem Uw{L M:List T}{t:T}{v:Nat}{l h:T}(hM:∀s,s∈M->sub M s)(ht:T.node v l h=t)(hn:t∉M):TF L (M++[t])=TF L M++[(code L t,(M.length:Int)+2)]:=by
 subst ht;simp only[TF,map_append,cons_append,map_cons,map_nil];congr 3
 .apply List.map_congr_left;intro s hs;rw[Hi _ (hM s hs)]
 .simp only[code];rw[MV [] hn]
theorem v160(B3:Bool)(q r:D){L:List T}(hc:Cl L)(hb:L.length<=1000000)(i1 i2 i3 i4 im:Nat)(h41:i4≠i1)(h42:i4≠i2)(h43:i4≠i3):∀(t:T) (M:List T) (S:A1),sub L t->Cl M->(∀s,s∈M->s∈L)->mg B3 q r L i1 i2 i3 i4 im M S ->
  ∃S',call dp 160 [.i .i64 (code L t),.bx i1 0,.bx i2 0,.bx i3 0,.bx i4 0] S=some (.i .i64 (code (post t M) t),S')/\mg B3 q r L i1 i2 i3 i4 im (post t M) S'/\Es i4 S S':=by
 intro t
 induction t with
 |leaf b=>
  intro M S ht hM hML hI
  let P:D->A1->Prop:=fun r' S'=>r'=.i .i64 (code M (.leaf b))/\S'=S
  obtain⟨r',S',e,rfl,rfl⟩:=f160 (.i .i64 (code L (.leaf b))) (.bx i1 0) (.bx i2 0) (.bx i3 0) (.bx i4 0) S P (by
   simp[s160,hI.1];have:=Gk RB (a:=code L (.leaf b)) rfl hI.2.1 true (.i .i64 0);rw[show D.i .i64 (code L (.leaf b))=eI (code L (.leaf b)) from rfl,this]
   cases b<;>simp[TF,assoc,code,eI]<;>exact⟨rfl,rfl⟩)
  exact⟨S',e,hI,Es.refl _ _⟩
 |node v l h ihl ihh=>
  intro M S ht hM hML hI;obtain⟨kl,kh⟩:=El hc _ ht;have oS:=Eo L v l h;have Ap:=HS ht;have Q0:(code L (.node v l h)-2).toNat=pos L (.node v l h):=by simp only[code];omega
  have UZ:=Xp ht;have hMs:∀s,s∈M->sub L s:=fun s hs=>XF hc s (hML s hs)
  let P:D->A1->Prop:=fun r' S'=>r'=.i .i64 (code (post (.node v l h) M) (.node v l h))/\mg B3 q r L i1 i2 i3 i4 im (post (.node v l h) M) S'/\Es i4 S S'
  have hlook:assoc (code L (.node v l h)) (TF L M)=if T.node v l h∈M then some (code M (.node v l h)) else none:=by
   have h0:¬code L (.node v l h)=0:=by omega
   have h1:¬code L (.node v l h)=1:=by omega
   simp only[TF,assoc,h0,h1,if_false];exact Sk hMs ht _ (fun _ _ _ _=>trivial)
  obtain⟨r',S',e,rfl,h1,h2⟩:=f160 (.i .i64 (code L (.node v l h))) (.bx i1 0) (.bx i2 0) (.bx i3 0) (.bx i4 0) S P (by
   have ND:=Gk RB (a:=code L (.node v l h)) rfl hI.2.1 true (.i .i64 0);rw[hlook] at ND;simp only[eI] at ND;simp[s160,hI.1,ND];by_cases hm:T.node v l h∈M
   .have hp:post (.node v l h) M=M:=by rw[post,if_pos hm]
    simp[hm];exact⟨by rw[hp];rfl,by rw[hp];exact hI,Es.refl _ _⟩
   .simp[hm,hI.2.2.1,hI.2.2.2.1];rw[wrap64 ⟨by omega,by omega⟩,Td _ (by omega) (by rw[Q0];exact UZ)];obtain⟨c1,s1,m1,z1⟩:=R9 hc hM hML kl;obtain⟨c2,s2,m2,z2⟩:=R9 hc c1 m1 kh;have hp:post (.node v l h) M=post h (post l M)++[.node v l h]:=by rw[post,if_neg hm]
    have hpi:=R9 hc hM hML ht;rw[hp] at hpi;obtain⟨N2,e2,_⟩:=H7 h (post l M) c1;have xV:code (post h (post l M)) l=code (post l M) l:=by rw[e2,Hi _ s1]
    have hz:(post h (post l M)).length+1<=L.length:=by simpa using hpi.2.2.2
    have hnm:T.node v l h∉post h (post l M):=(ER.1 hpi.1).2.1;have g1:=AJ hI.1;have g2:=AJ hI.2.2.1;have g3:=AJ hI.2.2.2.1;have gm:=AJ hI.2.1;have g4:i4<S.length:=by obtain⟨_,_,_,_,_,_,e,_⟩:=hI;exact AJ e
    have hm1:im≠i4:=by rintro rfl;obtain⟨_,b,_,_,_,_,e,_⟩:=hI;rw[b] at e;cases e
    have hI1:=Us hI (PU.push (fun _=>False) (.box (C5 (nd L (.node v l h)))) S) id id id id id (fun _ k=>k.elim);obtain⟨S1,q1,I1,P1⟩:=ihl M _ kl hM hML hI1;obtain⟨S2,q2,I2,P2⟩:=ihh (post l M) S1 kh c1 m1 I1;have b0:AA (B9.box (C5 (nd L (.node v l h)))::S) S.length=some (.box (C5 (nd L (.node v l h)))):=by simp
    have b1:=P1 _ _ (by omega) b0;have b2:=P2 _ _ (by omega) b1;have hS:Es i4 S (B9.box (C5 (nd L (.node v l h)))::S):=Es.push _ _ _;simp only[A5,Um,lR,bind_some,lS];simp only[nd] at b0 b1 b2 hI1 q1 P1 hS ⊢;generalize B9.box (C5 ((v:Int),code L l,code L h))::S=Sa at *;simp only[b0,hI1.2.2.2.1,K2,LW,nd_1,nd_2,getElem?_cons_zero,A5,SN,q1,I1.2.2.2.1,deq_fn4,true_and,b1,deq_i,q2,b2];simp only[C5,qN,Oj,A5];have YI:=AJ b2;have b3:AA (sset S2 S.length (.box [.i .i64 v,.i .i64 (code (post l M) l),.i .i64 (code L h)])) S.length=_:=AR _ YI;simp only[b3,stE3_2,Oj,A5]
    have k3:PU (fun j=>j=S.length) S2 (sset (sset S2 S.length (.box [.i .i64 v,.i .i64 (code (post l M) l),.i .i64 (code L h)])) S.length (.box [.i .i64 v,.i .i64 (code (post l M) l),.i .i64 (code (post h (post l M)) h)])):=
     (PU.sset (p:=fun j=>j=S.length) _ _ rfl).trans (PU.sset (p:=fun j=>j=S.length) _ _ rfl)
    have I3:=Us I2 k3 (by omega) (by omega) (by omega) (by omega) (by omega) (by rintro _ rfl h;rw[b2] at h;cases h);have b4:AA (sset (sset S2 S.length (.box [.i .i64 v,.i .i64 (code (post l M) l),.i .i64 (code L h)])) S.length (.box [.i .i64 v,.i .i64 (code (post l M) l),.i .i64 (code (post h (post l M)) h)])) S.length=_:=AR _ (by rw[BR];exact YI);generalize sset (sset S2 S.length (.box [.i .i64 v,.i .i64 (code (post l M) l),.i .i64 (code L h)])) S.length (.box [.i .i64 v,.i .i64 (code (post l M) l),.i .i64 (code (post h (post l M)) h)])=S3 at *
    have P3:Es i4 S S3:=by intro id cs hid e;exact k3 _ _ (by have:=AJ e;simp only;omega) (P2 _ _ hid (P1 _ _ hid (hS _ _ hid e)))
    obtain⟨j1,jm,j2,j3,n,o,j4,jl⟩:=I3;have ND:((CH (post h (post l M))).map C5).length=(post h (post l M)).length:=by rw[length_map,BU]
    obtain⟨t',S4,q4,l4,p4,m4,z4⟩:=LR (k:=3) (n':=false) (xs:=(CH (post h (post l M))).map C5) (ys:=[[.i .i64 v,.i .i64 (code (post l M) l),.i .i64 (code (post h (post l M)) h)]]) (o':=.ro) (by rw[ND];exact jl) (by rw[ND];simp[AP];omega) (by simp);have j4':=p4 _ _ j4;simp only[j4,K2,LW,getElem?_cons_succ,getElem?_cons_zero,A5,b4,sx];rw[show AV 3 true [D.agg [.i .i64 v,.i .i64 (code (post l M) l),.i .i64 (code (post h (post l M)) h)]]=some [[.i .i64 v,.i .i64 (code (post l M) l),.i .i64 (code (post h (post l M)) h)]] from rfl];simp only[A5,q4,j4',qN,nV]
    have hX:(CH (post h (post l M))).map C5++[[D.i .i64 v,.i .i64 (code (post l M) l),.i .i64 (code (post h (post l M)) h)]]=(CH (post h (post l M)++[.node v l h])).map C5:=by rw[JP hpi.1,map_append,<-xV];rfl
    rw[hX];have hlX:((CH (post h (post l M)++[.node v l h])).map C5).length=(post h (post l M)).length+1:=by rw[length_map,BU];simp
    have a1:=j1;have s1:AA (sset S4 i4 (.box [q,.sl 3 false ((CH (post h (post l M)++[.node v l h])).map C5) (.tok t'),r])) i1=_:=(AB _ (Ne.symm h41)).trans (p4 _ _ j1);have s2:AA (sset S4 i4 (.box [q,.sl 3 false ((CH (post h (post l M)++[.node v l h])).map C5) (.tok t'),r])) i2=_:=(AB _ (Ne.symm h42)).trans (p4 _ _ j2);have s3:AA (sset S4 i4 (.box [q,.sl 3 false ((CH (post h (post l M)++[.node v l h])).map C5) (.tok t'),r])) i3=_:=(AB _ (Ne.symm h43)).trans (p4 _ _ j3);have s4:AA (sset S4 i4 (.box [q,.sl 3 false ((CH (post h (post l M)++[.node v l h])).map C5) (.tok t'),r])) i4=_:=AR _ (AJ j4');have sm:AA (sset S4 i4 (.box [q,.sl 3 false ((CH (post h (post l M)++[.node v l h])).map C5) (.tok t'),r])) im=_:=(AB _ hm1).trans (m4 _ _ jm);have st:AA (sset S4 i4 (.box [q,.sl 3 false ((CH (post h (post l M)++[.node v l h])).map C5) (.tok t'),r])) t'=_:=(AB _ (by rintro rfl;rw[j4'] at l4;cases l4)).trans l4;have P5:Es i4 S (sset S4 i4 (.box [q,.sl 3 false ((CH (post h (post l M)++[.node v l h])).map C5) (.tok t'),r])):=fun id cs hid e=>(AB _ hid).trans (p4 _ _ (P3 _ _ hid e));generalize sset S4 i4 (.box [q,.sl 3 false ((CH (post h (post l M)++[.node v l h])).map C5) (.tok t'),r])=S5 at *;have hm2s:∀s,s∈post h (post l M)->sub (post h (post l M)) s:=XF c2;have hm2L:∀s,s∈post h (post l M)->sub L s:=fun s hs=>XF hc s (m2 s hs)
    have ha:assoc (code L (.node v l h)) (TF L (post h (post l M)))=none:=by
     have h0:¬code L (.node v l h)=0:=by omega
     have h1:¬code L (.node v l h)=1:=by omega
     simp only[TF,assoc,h0,h1,if_false];rw[Sk hm2L ht _ (fun _ _ _ _=>trivial),if_neg hnm]
    have xZ:=KT RB (ev:=eI) (a:=code L (.node v l h)) (b:=((post h (post l M)).length:Int)+2) rfl sm ha;rw[<-Uw (v:=v) (l:=l) (h:=h) hm2s rfl hnm] at xZ;have hs6:=AR (B9.map (C8 eI eI (TF L (post h (post l M)++[.node v l h])))) (AJ sm);have hlk6:=Gk RB (a:=code L (.node v l h)) rfl hs6 false (.i .i64 0)
    have has:assoc (code L (.node v l h)) (TF L (post h (post l M)++[.node v l h]))=some (((post h (post l M)).length:Int)+2):=by rw[Uw (v:=v) (l:=l) (h:=h) hm2s rfl hnm,Kb,ha];simp[assoc]
    rw[has] at hlk6;simp only[eI] at xZ hlk6;have hi1:im≠i1:=by rintro rfl;rw[sm] at s1;cases s1
    have hi2:im≠i2:=by rintro rfl;rw[sm] at s2;cases s2
    have hi3:im≠i3:=by rintro rfl;rw[sm] at s3;cases s3
    have hit:t'≠im:=by rintro rfl;rw[sm] at st;cases st
    simp only[s1,s4,K2,LW,getElem?_cons_succ,getElem?_cons_zero,A5,kC,Cp,EB,hlX];rw[wrap64 (n:=((((post h (post l M)).length+1:Nat):Int)-1)) ⟨by omega,by omega⟩,wrap64 ⟨by omega,by omega⟩];have e9:((((post h (post l M)).length+1:Nat):Int)-1+2)=((post h (post l M)).length:Int)+2:=by omega
    rw[e9,xZ];simp only[A5,AB _ (Ne.symm hi1),s1,K2,LW,getElem?_cons_zero,hlk6,map_some,uf];refine⟨?_,?_,?_⟩
    .rw[hp];simp only[code];rw[MV [] hnm];rfl
    .rw[hp];refine⟨(AB _ (Ne.symm hi1)).trans s1,hs6,(AB _ (Ne.symm hi2)).trans s2,(AB _ (Ne.symm hi3)).trans s3,false,.tok t',(AB _ (Ne.symm hm1)).trans s4,.inr ⟨rfl,t',rfl,(AB _ hit).trans st⟩⟩
    .exact fun id cs hid e=>(AB _ (by rintro rfl;rw[hI.2.1] at e;cases e)).trans (P5 _ _ hid e))
  exact⟨S',e,h1,h2⟩
@[simp] theorem ldc_bx(S:A1)(k:Nat)(g:Bool)(id o:Nat):CE S k g (.bx id o)=ldE (AA S id) k g o:=by simp only[CE,GH]
theorem v91(nl B3:Bool)(ord:List Row){L:List T}(hc:Cl L)(hb:L.length<=1000000)(t:T)(ht:sub L t)(hn:nl=true->ord=[])(ho:ord.length<=AP) :
  ∃n:Bool,(n=true->post t []=[])/\A0 (call dp) 91 [AN nl ord,Cm B3 (CH L),.i .i64 (code L t)]=some (eB nl n ord (CH (post t [])) (code (post t []) t)):=by
 let S0:A1:=[B9.box [.fn 160 [.bx 4 0,.bx 0 0,.bx 5 0,.bx 2 0]],.box [.mp 3],.map [(.i .i64 0,.i .i64 0),(.i .i64 1,.i .i64 1)],.box [AN nl ord,.sl 3 true [] .ro,.i .i64 0],.box [.sl 2 true [] .ro,.sl 3 true [] .ro,.i .i64 0],.box [Cm B3 (CH L)]]
 have hI:mg B3 (AN nl ord) (.i .i64 0) L 4 0 5 2 3 [] S0:=⟨rfl,rfl,rfl,rfl,true,.ro,rfl,.inl ⟨rfl,rfl,rfl⟩⟩
 obtain⟨S1,q1,⟨I1,I2,I3,I4,n,o,I5,I6⟩,P1⟩:=v160 B3 (AN nl ord) (.i .i64 0) hc hb 4 0 5 2 3 (by omega) (by omega) (by omega) t [] S0 ht Ny (by simp) hI;have hx3:AA S1 1=some (.box [.sl 2 true [] .ro,.sl 3 true [] .ro,.i .i64 0]):=P1 1 _ (by omega) rfl;refine⟨n,?_,?_⟩
 .rcases I6 with⟨_,h,_⟩|⟨h,_⟩
  .exact fun _=>List.length_eq_zero_iff.1 h
  .intro k;rw[k] at h;cases h
 .apply i91 _ _ _ _ (by simp[A9]) (by simp);simp[s91,v159 nl ord hn ho,B8,O8,isKey,HV,oy,QZ,seq1];change(call dp) 160 [.i .i64 (code L t),.bx 4 0,.bx 0 0,.bx 5 0,.bx 2 0] S0=_ at q1;have yO:=q1;simp only[S0] at yO;rw[yO];have l2:=AJ I5;have l1:=AJ hx3;have e1:AA (sset S1 2 (.box [AN nl ord,.sl 3 n ((CH (post t [])).map C5) o,.i .i64 (code (post t []) t)])) 2=_:=AR _ l2;have e2:AA (sset S1 2 (.box [AN nl ord,.sl 3 n ((CH (post t [])).map C5) o,.i .i64 (code (post t []) t)])) 1=_:=(AB _ (by omega)).trans hx3;have e3:AA (sset (sset S1 2 (.box [AN nl ord,.sl 3 n ((CH (post t [])).map C5) o,.i .i64 (code (post t []) t)])) 1 (.box [AN nl ord,.sl 3 n ((CH (post t [])).map C5) o,.i .i64 (code (post t []) t)])) 1=_:=AR _ (by rw[BR];exact l1);simp[I5,e1,e2,e3];rfl
open Classical in
theorem v38(nl B3:Bool)(ord:List Row)(ns:List Nd)(root:Int)(hn:nl=true->ord=[])(hb:Bd (ns.length+2))(YJ:Bd ord.length) :
  A0 (call dp) 38 [eB nl B3 ord ns root]=some (.b (decide (VB ord ns root))):=by
 obtain⟨c,hc⟩:∃c,c=decide (VB ord ns root):=⟨_,rfl⟩
 rw[<-hc];have hf:∀P:Prop,(VB ord ns root->P)->¬P->c=false:=fun P h1 h2=>by rw[hc];exact decide_eq_false fun h=>h2 (h1 h)
 have e90:=v90 nl B3 ord ns root hb;simp only[eB] at e90;apply i38 _ _ (by simp[A9]) rfl;simp[s38,v89 _ _ YJ,e90];by_cases h1:CW ord/\ord.length<=4096
 case neg=>
  have:=hf _ (fun h=>h.1) h1;simp[this];intro q1 q2;exact absurd ⟨q1,q2⟩ h1
 by_cases h2:ns.length<=4096
 case neg=>
  have:=hf _ (fun h=>h.2.1) h2;simp[h1,this];intro q1;exact absurd (show ns.length<=4096 by omega) h2
 have f2:¬(4096:Int)<ns.length:=by omega
 by_cases h3:Sh ord.length ns/\0<=root/\root<ns.length+2
 case neg=>
  have:=hf _ (fun h=>h.2.2.1) h3;simp[h1,f2,this];intro q1 q2 q3;exact absurd ⟨q1,q2,q3⟩ h3
 obtain⟨ho,h4,h5⟩:=h3;obtain⟨L,hL,e,hw⟩:=Zl ho;subst e;rw[BU] at *;obtain⟨t,ht,rfl,_⟩:=Tn hL h4 h5
 have hcan:VB ord (CH L) (code L t)<->post t []=L:=by rw[<-tw hL ht];exact⟨fun h=>h.2.2.2,fun h=>⟨h1,by rw[BU];exact h2,⟨ho,h4,by rw[BU];exact h5⟩,h⟩⟩
 have YC:c=true<->post t []=L:=by rw[hc,decide_eq_true_iff];exact hcan
 obtain⟨n,_,e91⟩:=v91 nl B3 ord hL (by omega) t ht hn (by simp[AP];omega);simp[h1,f2,ho,h4,h5,e91,v92 n B3 (CH (post t [])) (CH L) (by rw[BU];unfold Bd at *;omega)];obtain⟨pc,ps,_⟩:=R9 hL Ny (by simp) ht;by_cases e:post t []=L
 .simp[e,YC.2 e]
 .have yM:c=false:=by rw[<-Bool.not_eq_true,YC];exact e
  have:¬CH (post t [])=CH L:=fun h=>e (Wl pc hL h);simp[this,yM]
end Go.Proofs.YtjniafcnjbbomaaGreatDoor.DE.V
namespace Go.Proofs.YtjniafcnjbbomaaGreatDoor.DE
open Go
abbrev dj(a2 a3 a6 a7 a8 a9:D):List D:=B0 18 [(2,a2),(3,a3),(6,a6),(7,a7),(8,a8),(9,a9)]
def Xt:Mi:=fun cf a2 a3 a6 a7 a8 a9 S Q=>Q .ret (dj a3 .top .top .top .top .top) S
def kA:N6 WT dj Xt:=bK
def Nv:Mi:=fun cf a2 a3 a6 a7 a8 a9 S Q=>OX (A4 .lss .num a8 a7) fun x1=>WB x1
 (OX (Ak 1 a6 a8) fun x2=>OX (AE S 1 false x2) fun x3=>OX (A4 .neq .num x3 a3) fun x4=>WB x4
 (Q .ret (dj x3 .top .top .top .top .top) S)
 (OX (A4 .add .num a8 (.n 1)) fun x5=>Q .normal (dj a2 a3 a6 a7 x5 .top) S))
 (Q (.exit 0) (dj a2 a3 a6 a7 a8 x1) S)
def Vv:L6 dF dj Nv:=bu
def s172:EV:=fun cf a0 S Post=>OX (AK false a0) fun x6=>W cf (.loop [] dF) (dj .top (.n 0) a0 x6 (.n 0) .top) S (Af 0 (QS cf WT (Aw [.t 2] Post)))
def e172:E1 d172 s172:=Uf
def s200:Cn:=fun cf a0 a1 S Post=>Cg 2 true a0 S fun x1 S2=>Cg 2 true a1 S2 fun x3 S4=>OX (AO 0 x1) fun x5=>OX (AE S4 1 false x5) fun x6=>OX (AO 0 x3) fun x7=>OX (AE S4 1 false x7) fun x8=>OX (A0 cf 144 [x6,x8]) fun x9=>OX (AO 1 x1) fun x10=>OX (AE S4 1 false x10) fun x11=>OX (AO 1 x3) fun x12=>OX (AE S4 1 false x12) fun x13=>OX (A0 cf 144 [x11,x13]) fun x14=>OX (AV 1 false [x9,x14]) fun x15=>OX (A0 cf 172 [(.sl 1 false x15 .ro)]) fun x16=>Post x16 S4
def e200:E2 d200 s200:=PL
def s269:EV:=fun cf a0 S Post=>OX (A4 .geq .num a0 (.i .u64 4294967296)) fun x1=>jn (fun(y3 y4 y5:D) (S6:A1)=>OX (A4 .geq .num y3 (.i .u64 65536)) fun x7=>jn (fun(y9 y10 y11:D) (S12:A1)=>OX (A4 .geq .num y9 (.i .u64 256)) fun x13=>jn (fun(y15 y16 y17:D) (S18:A1)=>OX (BA .u8 y15) fun x19=>OX (Yf (.s [0,1,2,2,3,3,3,3,4,4,4,4,4,4,4,4,5,5,5,5,5,5,5,5,5,5,5,5,5,5,5,5,6,6,6,6,6,6,6,6,6,6,6,6,6,6,6,6,6,6,6,6,6,6,6,6,6,6,6,6,6,6,6,6,7,7,7,7,7,7,7,7,7,7,7,7,7,7,7,7,7,7,7,7,7,7,7,7,7,7,7,7,7,7,7,7,7,7,7,7,7,7,7,7,7,7,7,7,7,7,7,7,7,7,7,7,7,7,7,7,7,7,7,7,7,7,7,7,8,8,8,8,8,8,8,8,8,8,8,8,8,8,8,8,8,8,8,8,8,8,8,8,8,8,8,8,8,8,8,8,8,8,8,8,8,8,8,8,8,8,8,8,8,8,8,8,8,8,8,8,8,8,8,8,8,8,8,8,8,8,8,8,8,8,8,8,8,8,8,8,8,8,8,8,8,8,8,8,8,8,8,8,8,8,8,8,8,8,8,8,8,8,8,8,8,8,8,8,8,8,8,8,8,8,8,8,8,8,8,8,8,8,8,8,8,8,8,8,8,8,8,8,8,8,8,8]) x19) fun x20=>OX (BA .i64 x20) fun x21=>OX (A4 .add .num y16 x21) fun x22=>Post x22 S18) fun k14=>WB x13
 (OX (A4 .shr .num y9 (.i .u64 8)) fun x23=>OX (A4 .add .num y10 (.n 8)) fun x24=>k14 x23 x24 D.top S12)
 (k14 y9 y10 x13 S12)) fun k8=>WB x7
 (OX (A4 .shr .num y3 (.i .u64 16)) fun x25=>OX (A4 .add .num y4 (.n 16)) fun x26=>k8 x25 x26 D.top S6)
 (k8 y3 y4 x7 S6)) fun k2=>WB x1
 (OX (A4 .shr .num a0 (.i .u64 32)) fun x27=>k2 x27 (.n 32) D.top S)
 (k2 a0 (.n 0) x1 S)
def j269:J1 269 s269:=xx d269
def s193:EV:=fun cf a0 S Post=>WB (.b false)
 (OX (BA .u32 a0) fun x1=>OX (A0 cf 268 [x1]) fun x2=>Post x2 S)
 (OX (A0 cf 269 [a0]) fun x3=>Post x3 S)
def Yo:E1 d193 s193:=Uf
def i193:I1 193 s193:=JF d193 (e:=Yo)
def s199:Cn:=fun cf a0 a1 S Post=>OX (AK false a0) fun x1=>OX (BA .u64 x1) fun x2=>OX (A0 cf 193 [x2]) fun x3=>OX (cf 273 [a0,(.n 0),x1,x3,a1] S) fun p5=>Post (.AY []) p5.2
def e199:E2 d199 s199:=PL
def f199:F2 199 s199:=eR d199 (e:=e199)
abbrev Qm(a0 a2 a3 a4 a5 a13 a25 a32:D):List D:=B0 61 [(0,a0),(2,a2),(3,a3),(4,a4),(5,a5),(13,a13),(25,a25),(32,a32)]
def kq:PW:=fun cf a0 a2 a3 a4 a5 a13 a25 a32 S Q=>OX (GG 2 a0 (some a3) none) fun x1=>OX (qe 2 [.n 0,.n 0] S x1) fun S3=>OX (GG 2 a0 none (some a3)) fun x4=>Q .ret (Qm .top x4 .top .top .top a13 a25 .top) S3
def zC:N8 X5 Qm kq:=uS
def gK:PW:=fun cf a0 a2 a3 a4 a5 a13 a25 a32 S Q=>OX (A4 .add .num a3 (.n 1)) fun x5=>Q .normal (Qm a0 a2 x5 a4 a5 a13 .top a32) S
def XX:PW:=fun cf a0 a2 a3 a4 a5 a13 a25 a32 S Q=>OX (AK false a4) fun x6=>OX (A4 .lss .num a5 x6) fun x7=>WB x7
 (OX (Ak 2 a4 a5) fun x8=>OX (AE S 2 true x8) fun x9=>OX (A4 .sub .num a5 (.n 1)) fun x10=>OX (Ak 2 a4 x10) fun x11=>OX (AE S 2 true x11) fun x12=>OX (A4 .neq (.agg [.i,.i]) x9 x12) fun x13=>jn (fun(y15 y16 y17 y18 y19 y20 y21 y22:D) (S23:A1)=>OX (A4 .add .num y19 (.n 1)) fun x24=>Q .normal (Qm y15 y16 y17 y18 x24 y20 y21 .top) S23) fun k14=>WB x13
 (OX (Ak 2 a4 a5) fun x25=>OX (AE S 2 true x25) fun x26=>OX (Ak 2 a0 a3) fun x27=>OX (Ax S 2 true x27 x26) fun S29=>OX (A4 .add .num a3 (.n 1)) fun x30=>k14 a0 a2 x30 a4 a5 a13 a25 D.top S29)
 (k14 a0 a2 a3 a4 a5 a13 a25 x13 S))
 (Q (.exit 2) (Qm a0 a2 a3 a4 a5 a13 a25 x7) S)
def e201_0:L8 ao Qm XX:=uA
def gL:PW:=fun cf a0 a2 a3 a4 a5 a13 a25 a32 S Q=>Q .ret (Qm .top a0 .top a4 a5 .top a25 a32) S
def AAV:N8 WM Qm gL:=uS
def WA:PW:=fun cf a0 a2 a3 a4 a5 a13 a25 a32 S Q=>OX (AK false a0) fun x31=>OX (A4 .lss .num a3 x31) fun x32=>WB x32
 (OX (Ak 2 a0 a3) fun x33=>OX (AE S 2 true x33) fun x34=>OX (A4 .sub .num a3 (.n 1)) fun x35=>OX (Ak 2 a0 x35) fun x36=>OX (AE S 2 true x36) fun x37=>OX (A4 .eql (.agg [.i,.i]) x34 x37) fun x38=>WB x38
 (OX (GG 2 a0 (some a3) none) fun x39=>W cf (.loop [] ao) (Qm a0 a2 a3 x39 (.n 1) .top .top a32) S (Af 2 (QS cf X5 (Af 1 (QS cf ja Q)))))
 (gK cf a0 a2 a3 a4 a5 D.top x38 a32 S Q))
 (Q (.exit 0) (Qm a0 a2 a3 a4 a5 x32 a25 a32) S)
def e201_1:L8 cC Qm WA:=uA
def rE:EV:=fun cf a0 S Post=>OX (AK false a0) fun x40=>OX (A4 .lss .num x40 (.n 2)) fun x41=>WB x41
 (Post a0 S)
 (W cf (.loop [] cC) (Qm a0 .top (.n 1) .top .top .top .top .top) S (Af 0 (QS cf WM (Aw [.t 2] Post))))
def tm:E1 d201 rE:=Uf
def f201:F1 201 rE:=mF1 d201 (e:=tm)
def YV:EV:=fun cf a0 S Post=>OX (A4 .eql .sl a0 (.z 2)) fun x1=>WB x1
 (Post (.z 2) S)
 (OX (AV 2 true []) fun x2=>OX (Be 2 true (HE 2 x2 S).1 a0 (HE 2 x2 S).2) fun p4=>Post p4.1 p4.2)
def ZM:E1 vy YV:=Uf
def qS:F1 1159 YV:=mF1 vy (e:=ZM)
def s128:EV:=fun cf a0 S Post=>OX (cf 1159 [a0] S) fun p2=>OX (cf 199 [p2.1,(.fn 200 [])] p2.2) fun p4=>OX (cf 201 [p2.1] p4.2) fun p6=>OX (Lr p6.1 p6.2) fun p7=>Post p7.1 p7.2
def e128:E1 d128 s128:=Uf
def j128:J1 128 s128:=xx d128 (e:=e128)
def s67:Pq:=fun cf a0 a1 a2 S Post=>Cg 1 false a0 S fun x1 S2=>al [.z 2,.z 3,.n 0] S2 fun x3 S4=>OX (AE S4 1 false x1) fun x5=>OX (A0 cf 89 [x5]) fun x6=>OX (ES .not x6) fun x7=>OX (A8 x7 false (some a1)) fun x8=>OX (A8 x7 false (A0 cf 62 [x8])) fun x9=>OX (A8 x7 false (ES .not x9)) fun x10=>OX (AU x7 (.b true) x10) fun x11=>OX (A8 x11 false (some a2)) fun x12=>OX (A8 x11 false (A4 .lss .num x12 (.n 0))) fun x13=>OX (AU x11 (.b true) x13) fun x14=>WB x14
 (OX (B8 [.z 2,.z 3,.n 0] []) fun x15=>OX (Ax S4 3 true x3 (.agg x15)) fun S17=>OX (CE S17 3 true x3) fun x18=>Post (.AY [x18,(.n 1)]) S17)
 (OX (A0 cf 122 [a1]) fun x19=>WB x19
 (OX (B8 [.z 2,.z 3,.n 0] []) fun x20=>OX (Ax S4 3 true x3 (.agg x20)) fun S22=>OX (CE S22 3 true x3) fun x23=>Post (.AY [x23,(.n 13)]) S22)
 (OX (A0 cf 68 [a1]) fun x24=>OX (cf 123 [x24,(.fn 124 [x1])] S4) fun p26=>WB p26.1
 (OX (B8 [.z 2,.z 3,.n 0] []) fun x27=>OX (Ax p26.2 3 true x3 (.agg x27)) fun S29=>OX (CE S29 3 true x3) fun x30=>Post (.AY [x30,(.n 4)]) S29)
 (OX (AE p26.2 1 false x1) fun x31=>OX (B8 [.z 2,.n 0] [(0,1,false,x31),(1,1,false,a2)]) fun x32=>OX (A0 cf 125 [(.agg x32),a1]) fun x33=>OX (Ag x33 0) fun x34=>OX (Ag x33 1) fun x35=>OX (Ax p26.2 3 true x3 x34) fun S37=>OX (CE S37 3 true x3) fun x38=>Post (.AY [x38,x35]) S37)))
def j67:J3 67 s67:=mJ3 d67
abbrev m25(a0 a1 a4 a5 a9:D):List D:=B0 20 [(0,a0),(1,a1),(4,a4),(5,a5),(9,a9)]
def ve:V7:=fun cf a0 a1 a4 a5 a9 S Q=>Q .ret (m25 .top .top (.b true) .top .top) S
def e25_r0:N5 fS m25 ve:=kN5
def s25_0:V7:=fun cf a0 a1 a4 a5 a9 S Q=>OX (AK false a1) fun x1=>OX (A4 .lss .num a5 x1) fun x2=>WB x2
 (OX (Ak 1 a1 a5) fun x3=>OX (AE S 1 false x3) fun x4=>OX (A0 cf 75 [x4,a0,(.n 12)]) fun x5=>OX (A4 .gtr .num x5 a0) fun x6=>WB x6
 (Q .ret (m25 .top .top (.b false) .top .top) S)
 (OX (A4 .add .num a5 (.n 1)) fun x7=>Q .normal (m25 a0 a1 a4 x7 .top) S))
 (Q (.exit 0) (m25 a0 a1 a4 a5 x2) S)
def e25_0:L5 tN m25 s25_0:=kL5
def s25:Cn:=fun cf a0 a1 S Post=>W cf (.loop [] tN) (m25 a0 a1 .top (.n 0) .top) S (Af 0 (QS cf fS (Aw [.t 4] Post)))
def j25:J2 25 s25:=UE d25
abbrev UP(a0 a1 a2 a6 a7 a8 a9 a10 a11 a12 a25 a49 a84 a109:D):List D:=B0 136 [(0,a0),(1,a1),(2,a2),(6,a6),(7,a7),(8,a8),(9,a9),(10,a10),(11,a11),(12,a12),(25,a25),(49,a49),(84,a84),(109,a109)]
def qG:Qp:=fun cf a0 a1 a2 a6 a7 a8 a9 a10 a11 a12 a25 a49 a84 a109 S Q=>OX (AO 5 a10) fun x1=>OX (AE S 1 false x1) fun x2=>OX (AK false x2) fun x3=>OX (A4 .lss .num a12 x3) fun x4=>OX (A8 x4 true (some a7)) fun x5=>OX (A8 x4 true (some a1)) fun x6=>OX (A8 x4 true (A4 .leq .num x5 x6)) fun x7=>OX (AU x4 x7 (.b false)) fun x8=>WB x8
 (OX (AO 5 a10) fun x9=>OX (AE S 1 false x9) fun x10=>OX (Ak 4 x10 a12) fun x11=>OX (AO 0 x11) fun x12=>OX (AO 2 x12) fun x13=>OX (AE S 1 false x13) fun x14=>OX (AK true x14) fun x15=>OX (A4 .add .num a7 x15) fun x16=>OX (AO 5 a10) fun x17=>OX (AE S 1 false x17) fun x18=>OX (Ak 4 x18 a12) fun x19=>OX (AO 3 x19) fun x20=>OX (AE S 1 false x20) fun x21=>OX (A4 .sub .num a1 a7) fun x22=>OX (A4 .sub .num a2 (.n 1)) fun x23=>OX (A0 cf 75 [x21,x22,x23]) fun x24=>OX (A4 .add .num x16 x24) fun x25=>OX (A4 .add .num a12 (.n 1)) fun x26=>Q .normal (UP a0 a1 a2 a6 x25 a8 a9 a10 a11 x26 a25 a49 a84 .top) S)
 (Q (.exit 6) (UP a0 a1 a2 a6 a7 a8 a9 a10 a11 a12 a25 a49 a84 x8) S)
def e75_0:L14 tC UP qG:=zT
def dy:Qp:=fun cf a0 a1 a2 a6 a7 a8 a9 a10 a11 a12 a25 a49 a84 a109 S Q=>W cf (.loop [] tC) (UP a0 a1 a2 a6 a7 a8 a9 a10 .top (.n 0) a25 a49 .top a109) S (Af 6 Q)
def sR:N14 SD UP dy:=AAd
def Rv:Qp:=fun cf a0 a1 a2 a6 a7 a8 a9 a10 a11 a12 a25 a49 a84 a109 S Q=>OX (A4 .add .num a9 (.n 1)) fun x27=>Q .normal (UP a0 a1 a2 a6 a7 a8 x27 .top a11 .top a25 a49 a84 .top) S
def XC:N14 Tu UP Rv:=AAd
def vj:Qp:=fun cf a0 a1 a2 a6 a7 a8 a9 a10 a11 a12 a25 a49 a84 a109 S Q=>OX (AO 3 a10) fun x28=>OX (AE S 1 false x28) fun x29=>OX (AK false x29) fun x30=>OX (A4 .lss .num a11 x30) fun x31=>OX (A8 x31 true (some a7)) fun x32=>OX (A8 x31 true (some a1)) fun x33=>OX (A8 x31 true (A4 .leq .num x32 x33)) fun x34=>OX (AU x31 x34 (.b false)) fun x35=>WB x35
 (OX (AO 3 a10) fun x36=>OX (AE S 1 false x36) fun x37=>OX (Ak 1 x37 a11) fun x38=>OX (AE S 1 false x38) fun x39=>OX (A4 .sub .num a1 a7) fun x40=>OX (A4 .sub .num a2 (.n 1)) fun x41=>OX (A0 cf 75 [x39,x40,x41]) fun x42=>OX (A4 .add .num a7 x42) fun x43=>OX (A4 .add .num a11 (.n 1)) fun x44=>Q .normal (UP a0 a1 a2 a6 x43 a8 a9 a10 x44 a12 a25 a49 .top a109) S)
 (Q (.exit 4) (UP a0 a1 a2 a6 a7 a8 a9 a10 a11 a12 a25 a49 x35 a109) S)
def e75_1:L14 rO UP vj:=zT
def Rt:Qp:=fun cf a0 a1 a2 a6 a7 a8 a9 a10 a11 a12 a25 a49 a84 a109 S Q=>OX (A4 .add .num a8 (.n 1)) fun x45=>Q .normal (UP a0 a1 a2 a6 a7 x45 .top a10 a11 a12 a25 .top a84 a109) S
def Xe:N14 Tl UP Rt:=AAd
def uk:Qp:=fun cf a0 a1 a2 a6 a7 a8 a9 a10 a11 a12 a25 a49 a84 a109 S Q=>OX (Ak 2 a0 a8) fun x46=>OX (AO 1 x46) fun x47=>OX (AE S 1 false x47) fun x48=>OX (AK false x48) fun x49=>OX (A4 .lss .num a9 x49) fun x50=>OX (A8 x50 true (some a7)) fun x51=>OX (A8 x50 true (some a1)) fun x52=>OX (A8 x50 true (A4 .leq .num x51 x52)) fun x53=>OX (AU x50 x53 (.b false)) fun x54=>WB x54
 (OX (Ak 2 a0 a8) fun x55=>OX (AO 1 x55) fun x56=>OX (AE S 1 false x56) fun x57=>OX (Ak 11 x57 a9) fun x58=>OX (AO 0 x58) fun x59=>OX (AE S 10 true x59) fun x60=>al [.n 0,.n 0,.n 0,.z 1,.n 0,.z 4,.n 0,.n 0,.n 0,.s []] S fun x61 S62=>OX (Ax S62 10 true x61 x60) fun S64=>OX (AO 5 x61) fun x65=>OX (AE S64 1 false x65) fun x66=>OX (AK false x66) fun x67=>OX (A4 .add .num a7 x67) fun x68=>OX (AO 3 x61) fun x69=>OX (AE S64 1 false x69) fun x70=>OX (AK false x70) fun x71=>OX (A4 .add .num x68 x71) fun x72=>OX (AO 7 x61) fun x73=>OX (AO 2 x73) fun x74=>OX (AE S64 1 false x74) fun x75=>OX (AK true x75) fun x76=>OX (A4 .add .num x72 x76) fun x77=>W cf (.loop [] rO) (UP a0 a1 a2 a6 x77 a8 a9 x61 (.n 0) a12 a25 .top a84 a109) S64 (Af 4 (QS cf SD (Af 3 (QS cf Tu Q)))))
 (Q (.exit 2) (UP a0 a1 a2 a6 a7 a8 a9 a10 a11 a12 a25 x54 a84 a109) S)
def e75_2:L14 rM UP uk:=zT
def Se:Qp:=fun cf a0 a1 a2 a6 a7 a8 a9 a10 a11 a12 a25 a49 a84 a109 S Q=>Q .ret (UP .top .top .top a7 .top .top a9 a10 a11 a12 .top a49 a84 a109) S
def Xu:N14 Tp UP Se:=AAd
def vO:Qp:=fun cf a0 a1 a2 a6 a7 a8 a9 a10 a11 a12 a25 a49 a84 a109 S Q=>OX (AK false a0) fun x78=>OX (A4 .lss .num a8 x78) fun x79=>OX (A8 x79 true (some a7)) fun x80=>OX (A8 x79 true (some a1)) fun x81=>OX (A8 x79 true (A4 .leq .num x80 x81)) fun x82=>OX (AU x79 x82 (.b false)) fun x83=>WB x83
 (OX (A4 .add .num a7 (.n 1)) fun x84=>OX (Ak 2 a0 a8) fun x85=>OX (AO 1 x85) fun x86=>OX (AE S 1 false x86) fun x87=>OX (AK false x87) fun x88=>OX (A4 .add .num x84 x88) fun x89=>W cf (.loop [] rM) (UP a0 a1 a2 a6 x89 a8 (.n 0) a10 a11 a12 .top a49 a84 a109) S (Af 2 (Af 1 (QS cf Tl Q))))
 (Q (.exit 0) (UP a0 a1 a2 a6 a7 a8 a9 a10 a11 a12 x83 a49 a84 a109) S)
def e75_3:L14 qV UP vO:=zT
def s75:Pq:=fun cf a0 a1 a2 S Post=>OX (A4 .eql .num a2 (.n 0)) fun x90=>WB x90
 (OX (A4 .add .num a1 (.n 1)) fun x91=>Post x91 S)
 (W cf (.loop [] qV) (UP a0 a1 a2 .top (.n 0) (.n 0) .top .top .top .top .top .top .top .top) S (Af 0 (QS cf Tp (Aw [.t 6] Post))))
def j75:J3 75 s75:=mJ3 d75
abbrev o5(a0 a2 a4 a10 a11 a12 a13 a40 a41 a42 a43:D):List D:=B0 85 [(0,a0),(2,a2),(4,a4),(10,a10),(11,a11),(12,a12),(13,a13),(40,a40),(41,a41),(42,a42),(43,a43)]
def uw:Pm:=fun cf a0 a2 a4 a10 a11 a12 a13 a40 a41 a42 a43 S Q=>OX (A4 .add .num a12 (.n 1)) fun x1=>Q .normal (o5 a0 a2 .top a10 a11 x1 a13 .top .top .top .top) S
def e62_r0:N11 W9 o5 uw:=rS
def s62_0:Pm:=fun cf a0 a2 a4 a10 a11 a12 a13 a40 a41 a42 a43 S Q=>OX (A4 .lss .num a42 a41) fun x2=>WB x2
 (OX (Ak 11 a40 a42) fun x3=>OX (AE S 11 true x3) fun x4=>al [.n 0,.n 0,.n 0,.z 1,.n 0,.z 4,.n 0,.n 0,.n 0,.s [],.n 0] S fun x5 S6=>OX (Ax S6 11 true x5 x4) fun S8=>OX (AO 10 x5) fun x9=>OX (AE S8 1 false x9) fun x10=>OX (A4 .lss .num x10 (.n 1)) fun x11=>OX (A8 x11 false (AO 0 x5)) fun x12=>OX (A8 x11 false (AE S8 10 true x12)) fun x13=>OX (A8 x11 false (A0 cf 115 [x13])) fun x14=>OX (A8 x11 false (some x14)) fun x15=>OX (A8 x15 true (AO 10 x5)) fun x16=>OX (A8 x15 true (AE S8 1 false x16)) fun x17=>OX (A8 x15 true (A4 .neq .num x17 (.n 1))) fun x18=>OX (A8 x11 false (AU x15 x18 (.b false))) fun x19=>OX (AU x11 (.b true) x19) fun x20=>OX (A8 x20 false (some a42)) fun x21=>OX (A8 x20 false (A4 .gtr .num x21 (.n 0))) fun x22=>OX (A8 x20 false (some x22)) fun x23=>OX (A8 x23 true (AO 1 a4)) fun x24=>OX (A8 x23 true (AE S8 1 false x24)) fun x25=>OX (A8 x23 true (some a42)) fun x26=>OX (A8 x23 true (A4 .sub .num x26 (.n 1))) fun x27=>OX (A8 x23 true (Ak 11 x25 x27)) fun x28=>OX (A8 x23 true (AO 0 x28)) fun x29=>OX (A8 x23 true (AE S8 10 true x29)) fun x30=>OX (A8 x23 true (AO 0 x5)) fun x31=>OX (A8 x23 true (AE S8 10 true x31)) fun x32=>OX (A8 x23 true (A0 cf 116 [x30,x32])) fun x33=>OX (A8 x23 true (A4 .geq .num x33 (.n 0))) fun x34=>OX (A8 x20 false (AU x23 x34 (.b false))) fun x35=>OX (AU x20 (.b true) x35) fun x36=>OX (A8 x36 false (AO 0 x5)) fun x37=>OX (A8 x36 false (AE S8 10 true x37)) fun x38=>OX (A8 x36 false (A0 cf 117 [x38])) fun x39=>OX (A8 x36 false (ES .not x39)) fun x40=>OX (AU x36 (.b true) x40) fun x41=>WB x41
 (Q .ret (o5 .top (.b false) .top .top .top .top a13 .top .top .top .top) S8)
 (OX (A4 .add .num a42 (.n 1)) fun x42=>Q .normal (o5 a0 a2 a4 a10 a11 a12 a13 a40 a41 x42 .top) S8))
 (Q (.exit 2) (o5 a0 a2 a4 a10 a11 a12 a13 a40 a41 a42 x2) S)
def e62_0:L11 Ye o5 s62_0:=yR
def wD:Pm:=fun cf a0 a2 a4 a10 a11 a12 a13 a40 a41 a42 a43 S Q=>Q .ret (o5 .top (.b true) a4 .top .top .top .top a40 a41 a42 a43) S
def e62_r1:N11 XH o5 wD:=rS
def s62_1:Pm:=fun cf a0 a2 a4 a10 a11 a12 a13 a40 a41 a42 a43 S Q=>OX (A4 .lss .num a12 a11) fun x43=>WB x43
 (OX (Ak 2 a10 a12) fun x44=>OX (AE S 2 true x44) fun x45=>al [.n 0,.z 11] S fun x46 S47=>OX (Ax S47 2 true x46 x45) fun S49=>OX (AO 0 x46) fun x50=>OX (AE S49 1 false x50) fun x51=>OX (A4 .lss .num x51 (.n 1)) fun x52=>OX (A8 x52 false (AO 0 x46)) fun x53=>OX (A8 x52 false (AE S49 1 false x53)) fun x54=>OX (A8 x52 false (A4 .gtr .num x54 (.n 1152921504606846976))) fun x55=>OX (AU x52 (.b true) x55) fun x56=>OX (A8 x56 false (some a12)) fun x57=>OX (A8 x56 false (A4 .gtr .num x57 (.n 0))) fun x58=>OX (A8 x56 false (some x58)) fun x59=>OX (A8 x59 true (some a0)) fun x60=>OX (A8 x59 true (some a12)) fun x61=>OX (A8 x59 true (A4 .sub .num x61 (.n 1))) fun x62=>OX (A8 x59 true (Ak 2 x60 x62)) fun x63=>OX (A8 x59 true (AE S49 2 true x63)) fun x64=>OX (A8 x59 true (AE S49 2 true x46)) fun x65=>OX (A8 x59 true (A0 cf 114 [x64,x65])) fun x66=>OX (A8 x59 true (A4 .geq .num x66 (.n 0))) fun x67=>OX (A8 x56 false (AU x59 x67 (.b false))) fun x68=>OX (AU x56 (.b true) x68) fun x69=>WB x69
 (Q .ret (o5 .top (.b false) .top .top .top .top .top a40 a41 a42 a43) S49)
 (OX (AO 1 x46) fun x70=>OX (AE S49 1 false x70) fun x71=>OX (AK false x71) fun x72=>W cf (.loop [] Ye) (o5 a0 a2 x46 a10 a11 a12 .top x71 x72 (.n 0) a43) S49 (Af 2 (Af 1 (QS cf W9 Q)))))
 (Q (.exit 0) (o5 a0 a2 a4 a10 a11 a12 x43 a40 a41 a42 a43) S)
def e62_1:L11 qE o5 s62_1:=yR
def s62:EV:=fun cf a0 S Post=>OX (A0 cf 113 [a0]) fun x73=>OX (ES .not x73) fun x74=>WB x74
 (Post (.b false) S)
 (OX (AK false a0) fun x75=>W cf (.loop [] qE) (o5 a0 .top .top a0 x75 (.n 0) .top .top .top .top .top) S (Af 0 (QS cf XH (Aw [.t 2] Post))))
def te:E1 d62 s62:=Uf
def i62:I1 62 s62:=JF d62 (e:=te)
def s113:EV:=fun cf a0 S Post=>OX (AK false a0) fun x1=>OX (A4 .gtr .num x1 (.n 512)) fun x2=>OX (A8 x2 false (some a0)) fun x3=>OX (A8 x2 false (A0 cf 166 [x3])) fun x4=>OX (A8 x2 false (A4 .gtr .num x4 (.n 8))) fun x5=>OX (AU x2 (.b true) x5) fun x6=>OX (A8 x6 false (some a0)) fun x7=>OX (A8 x6 false (A0 cf 167 [x7])) fun x8=>OX (A8 x6 false (A4 .gtr .num x8 (.n 4096))) fun x9=>OX (AU x6 (.b true) x9) fun x10=>WB x10
 (Post (.b false) S)
 (OX (A0 cf 139 [a0,(.fn 168 [])]) fun x11=>OX (ES .not x11) fun x12=>Post x12 S)
def i113:I1 113 s113:=JF d113
def s168:EV:=fun cf a0 S Post=>Cg 2 true a0 S fun x1 S2=>OX (AO 1 x1) fun x3=>OX (AE S2 1 false x3) fun x4=>OX (AK false x4) fun x5=>OX (A4 .gtr .num x5 (.n 64)) fun x6=>OX (A8 x6 false (AO 1 x1)) fun x7=>OX (A8 x6 false (AE S2 1 false x7)) fun x8=>OX (A8 x6 false (A0 cf 149 [x8,(.fn 169 [])])) fun x9=>OX (AU x6 (.b true) x9) fun x10=>Post x10 S2
def i168:I1 168 s168:=JF d168
def s169:EV:=fun cf a0 S Post=>Cg 11 true a0 S fun x1 S2=>OX (AO 10 x1) fun x3=>OX (AE S2 1 false x3) fun x4=>OX (A4 .gtr .num x4 (.n 64)) fun x5=>OX (A8 x5 false (AO 0 x1)) fun x6=>OX (A8 x5 false (AO 5 x6)) fun x7=>OX (A8 x5 false (AE S2 1 false x7)) fun x8=>OX (A8 x5 false (AK false x8)) fun x9=>OX (A8 x5 false (A4 .gtr .num x9 (.n 1024))) fun x10=>OX (AU x5 (.b true) x10) fun x11=>Post x11 S2
def i169:I1 169 s169:=JF d169
abbrev JN(a2 a3 a7 a8 a13 a14 a15 a16 a20 a21 a22 a23 a29 a32 a33 a34 a35 a45 a46 a47 a48:D):List D:=B0 64 [(2,a2),(3,a3),(7,a7),(8,a8),(13,a13),(14,a14),(15,a15),(16,a16),(20,a20),(21,a21),(22,a22),(23,a23),(29,a29),(32,a32),(33,a33),(34,a34),(35,a35),(45,a45),(46,a46),(47,a47),(48,a48)]
def jH:Pp:=fun cf a2 a3 a7 a8 a13 a14 a15 a16 a20 a21 a22 a23 a29 a32 a33 a34 a35 a45 a46 a47 a48 S Q=>OX (A4 .add .num (.n 1) a8) fun x1=>OX (yD a3 x1) fun x2=>Q .normal (JN a2 x2 a7 .top a13 a14 a15 a16 a20 a21 a22 a23 a29 a32 a33 a34 a35 .top .top .top .top) S
def e166_r0:N21 W6 JN jH:=uU
def pT:Pp:=fun cf a2 a3 a7 a8 a13 a14 a15 a16 a20 a21 a22 a23 a29 a32 a33 a34 a35 a45 a46 a47 a48 S Q=>OX (A4 .lss .num a47 a46) fun x3=>WB x3
 (OX (Ak 4 a45 a47) fun x4=>OX (AE S 4 true x4) fun x5=>al [.n 0,.n 0,.s [],.z 2] S fun x6 S7=>OX (Ax S7 4 true x6 x5) fun S9=>OX (AO 3 x6) fun x10=>OX (AE S9 1 false x10) fun x11=>OX (A0 cf 166 [x11]) fun x12=>OX (yD a8 x12) fun x13=>OX (A4 .add .num a47 (.n 1)) fun x14=>Q .normal (JN a2 a3 a7 x13 a13 a14 a15 a16 a20 a21 a22 a23 a29 a32 a33 a34 a35 a45 a46 x14 .top) S9)
 (Q (.exit 6) (JN a2 a3 a7 a8 a13 a14 a15 a16 a20 a21 a22 a23 a29 a32 a33 a34 a35 a45 a46 a47 x3) S)
def e166_0:L21 fP JN pT:=AAr
def jU:Pp:=fun cf a2 a3 a7 a8 a13 a14 a15 a16 a20 a21 a22 a23 a29 a32 a33 a34 a35 a45 a46 a47 a48 S Q=>OX (AO 0 a7) fun x15=>OX (AO 5 x15) fun x16=>OX (AE S 1 false x16) fun x17=>OX (AK false x17) fun x18=>W cf (.loop [] fP) (JN a2 a3 .top a8 a13 a14 a15 a16 a20 a21 a22 a23 a29 .top .top .top .top x17 x18 (.n 0) a48) S (Af 6 (QS cf W6 Q))
def zc:N21 Wz JN jU:=uU
def tP:Pp:=fun cf a2 a3 a7 a8 a13 a14 a15 a16 a20 a21 a22 a23 a29 a32 a33 a34 a35 a45 a46 a47 a48 S Q=>OX (A4 .lss .num a34 a33) fun x19=>WB x19
 (OX (Ak 1 a32 a34) fun x20=>OX (AE S 1 false x20) fun x21=>OX (A0 cf 166 [x21]) fun x22=>OX (yD a8 x22) fun x23=>OX (A4 .add .num a34 (.n 1)) fun x24=>Q .normal (JN a2 a3 a7 x23 a13 a14 a15 a16 a20 a21 a22 a23 a29 a32 a33 x24 .top a45 a46 a47 a48) S)
 (Q (.exit 4) (JN a2 a3 a7 a8 a13 a14 a15 a16 a20 a21 a22 a23 a29 a32 a33 a34 x19 a45 a46 a47 a48) S)
def e166_1:L21 cW JN tP:=AAr
def Rj:Pp:=fun cf a2 a3 a7 a8 a13 a14 a15 a16 a20 a21 a22 a23 a29 a32 a33 a34 a35 a45 a46 a47 a48 S Q=>OX (A4 .add .num a22 (.n 1)) fun x25=>Q .normal (JN a2 a3 .top a8 a13 a14 a15 a16 a20 a21 x25 a23 .top a32 a33 a34 a35 a45 a46 a47 a48) S
def yS:N21 WL JN Rj:=uU
def gR:Pp:=fun cf a2 a3 a7 a8 a13 a14 a15 a16 a20 a21 a22 a23 a29 a32 a33 a34 a35 a45 a46 a47 a48 S Q=>OX (A4 .add .num a15 (.n 1)) fun x26=>Q .normal (JN a2 a3 a7 a8 a13 a14 x26 a16 .top .top .top .top a29 a32 a33 a34 a35 a45 a46 a47 a48) S
def zL:N21 Wa JN gR:=uU
def rF:Pp:=fun cf a2 a3 a7 a8 a13 a14 a15 a16 a20 a21 a22 a23 a29 a32 a33 a34 a35 a45 a46 a47 a48 S Q=>OX (A4 .lss .num a22 a21) fun x27=>WB x27
 (OX (Ak 11 a20 a22) fun x28=>OX (AE S 11 true x28) fun x29=>al [.n 0,.n 0,.n 0,.z 1,.n 0,.z 4,.n 0,.n 0,.n 0,.s [],.n 0] S fun x30 S31=>OX (Ax S31 11 true x30 x29) fun S33=>OX (AO 0 x30) fun x34=>OX (AO 0 x34) fun x35=>OX (AE S33 1 false x35) fun x36=>OX (A4 .eql .num x36 (.n 0)) fun x37=>WB x37
 (Rj cf a2 a3 x30 a8 a13 a14 a15 a16 a20 a21 a22 D.top x37 a32 a33 a34 a35 a45 a46 a47 a48 S33 Q)
 (OX (AO 0 x30) fun x38=>OX (AO 3 x38) fun x39=>OX (AE S33 1 false x39) fun x40=>OX (AK false x40) fun x41=>W cf (.loop [] cW) (JN a2 a3 x30 (.n 0) a13 a14 a15 a16 a20 a21 a22 .top .top x40 x41 (.n 0) a35 a45 a46 a47 a48) S33 (Af 4 (QS cf Wz (Af 3 (QS cf WL Q))))))
 (Q (.exit 2) (JN a2 a3 a7 a8 a13 a14 a15 a16 a20 a21 a22 x27 a29 a32 a33 a34 a35 a45 a46 a47 a48) S)
def e166_2:L21 cS JN rF:=AAr
def iC:Pp:=fun cf a2 a3 a7 a8 a13 a14 a15 a16 a20 a21 a22 a23 a29 a32 a33 a34 a35 a45 a46 a47 a48 S Q=>Q .ret (JN a3 .top a7 a8 .top .top .top .top a20 a21 a22 a23 a29 a32 a33 a34 a35 a45 a46 a47 a48) S
def zx:N21 Xm JN iC:=uU
def rT:Pp:=fun cf a2 a3 a7 a8 a13 a14 a15 a16 a20 a21 a22 a23 a29 a32 a33 a34 a35 a45 a46 a47 a48 S Q=>OX (A4 .lss .num a15 a14) fun x42=>WB x42
 (OX (Ak 2 a13 a15) fun x43=>OX (AE S 2 true x43) fun x44=>al [.n 0,.z 11] S fun x45 S46=>OX (Ax S46 2 true x45 x44) fun S48=>OX (AO 1 x45) fun x49=>OX (AE S48 1 false x49) fun x50=>OX (AK false x50) fun x51=>W cf (.loop [] cS) (JN a2 a3 a7 a8 a13 a14 a15 .top x50 x51 (.n 0) a23 a29 a32 a33 a34 a35 a45 a46 a47 a48) S48 (Af 2 (Af 1 (QS cf Wa Q))))
 (Q (.exit 0) (JN a2 a3 a7 a8 a13 a14 a15 x42 a20 a21 a22 a23 a29 a32 a33 a34 a35 a45 a46 a47 a48) S)
def e166_3:L21 eY JN rT:=AAr
def s166:EV:=fun cf a0 S Post=>OX (AK false a0) fun x52=>W cf (.loop [] eY) (JN .top (.n 0) .top .top a0 x52 (.n 0) .top .top .top .top .top .top .top .top .top .top .top .top .top .top) S (Af 0 (QS cf Xm (Aw [.t 2] Post)))
def j166:J1 166 s166:=xx d166
abbrev KL(a2 a3 a7 a12 a13 a14 a15 a25 a26 a27 a28 a33 a34 a35 a36 a46 a47 a48 a49:D):List D:=B0 62 [(2,a2),(3,a3),(7,a7),(12,a12),(13,a13),(14,a14),(15,a15),(25,a25),(26,a26),(27,a27),(28,a28),(33,a33),(34,a34),(35,a35),(36,a36),(46,a46),(47,a47),(48,a48),(49,a49)]
def pN:Ql:=fun cf a2 a3 a7 a12 a13 a14 a15 a25 a26 a27 a28 a33 a34 a35 a36 a46 a47 a48 a49 S Q=>OX (A4 .lss .num a48 a47) fun x1=>WB x1
 (OX (Ak 4 a46 a48) fun x2=>OX (AE S 4 true x2) fun x3=>al [.n 0,.n 0,.s [],.z 2] S fun x4 S5=>OX (Ax S5 4 true x4 x3) fun S7=>OX (AO 3 x4) fun x8=>OX (AE S7 1 false x8) fun x9=>OX (A0 cf 167 [x9]) fun x10=>OX (A4 .add .num (.n 1) x10) fun x11=>OX (A4 .add .num a3 x11) fun x12=>OX (A4 .add .num a48 (.n 1)) fun x13=>Q .normal (KL a2 x12 a7 a12 a13 a14 a15 a25 a26 a27 a28 a33 a34 a35 a36 a46 a47 x13 .top) S7)
 (Q (.exit 6) (KL a2 a3 a7 a12 a13 a14 a15 a25 a26 a27 a28 a33 a34 a35 a36 a46 a47 a48 x1) S)
def e167_0:L19 eL KL pN:=zZ
def jQ:Ql:=fun cf a2 a3 a7 a12 a13 a14 a15 a25 a26 a27 a28 a33 a34 a35 a36 a46 a47 a48 a49 S Q=>OX (AO 0 a7) fun x14=>OX (AO 5 x14) fun x15=>OX (AE S 1 false x15) fun x16=>OX (AK false x16) fun x17=>W cf (.loop [] eL) (KL a2 a3 .top a12 a13 a14 a15 a25 a26 a27 a28 .top .top .top .top x16 x17 (.n 0) a49) S (Af 6 Q)
def AAs:N19 XZ KL jQ:=kN19
def ir:Ql:=fun cf a2 a3 a7 a12 a13 a14 a15 a25 a26 a27 a28 a33 a34 a35 a36 a46 a47 a48 a49 S Q=>OX (A4 .add .num a27 (.n 1)) fun x18=>Q .normal (KL a2 a3 a7 a12 a13 a14 a15 a25 a26 x18 a28 a33 a34 a35 a36 .top .top .top .top) S
def ye:N19 WZ KL ir:=kN19
def xC:Ql:=fun cf a2 a3 a7 a12 a13 a14 a15 a25 a26 a27 a28 a33 a34 a35 a36 a46 a47 a48 a49 S Q=>OX (A4 .lss .num a35 a34) fun x19=>WB x19
 (OX (Ak 1 a33 a35) fun x20=>OX (AE S 1 false x20) fun x21=>OX (A0 cf 167 [x21]) fun x22=>OX (A4 .add .num a3 x22) fun x23=>OX (A4 .add .num a35 (.n 1)) fun x24=>Q .normal (KL a2 x23 a7 a12 a13 a14 a15 a25 a26 a27 a28 a33 a34 x24 .top a46 a47 a48 a49) S)
 (Q (.exit 4) (KL a2 a3 a7 a12 a13 a14 a15 a25 a26 a27 a28 a33 a34 a35 x19 a46 a47 a48 a49) S)
def e167_1:L19 cU KL xC:=zZ
def jj:Ql:=fun cf a2 a3 a7 a12 a13 a14 a15 a25 a26 a27 a28 a33 a34 a35 a36 a46 a47 a48 a49 S Q=>OX (A4 .add .num a14 (.n 1)) fun x25=>Q .normal (KL a2 a3 a7 a12 a13 x25 a15 .top .top .top .top a33 a34 a35 a36 a46 a47 a48 a49) S
def yp:N19 W3 KL jj:=kN19
def uR:Ql:=fun cf a2 a3 a7 a12 a13 a14 a15 a25 a26 a27 a28 a33 a34 a35 a36 a46 a47 a48 a49 S Q=>OX (A4 .lss .num a27 a26) fun x26=>WB x26
 (OX (Ak 11 a25 a27) fun x27=>OX (AE S 11 true x27) fun x28=>al [.n 0,.n 0,.n 0,.z 1,.n 0,.z 4,.n 0,.n 0,.n 0,.s [],.n 0] S fun x29 S30=>OX (Ax S30 11 true x29 x28) fun S32=>OX (AO 0 x29) fun x33=>OX (AO 3 x33) fun x34=>OX (AE S32 1 false x34) fun x35=>OX (AK false x35) fun x36=>W cf (.loop [] cU) (KL a2 a3 x29 a12 a13 a14 a15 a25 a26 a27 .top x35 x36 (.n 0) a36 a46 a47 a48 a49) S32 (Af 4 (QS cf XZ (Af 3 (QS cf WZ Q)))))
 (Q (.exit 2) (KL a2 a3 a7 a12 a13 a14 a15 a25 a26 a27 x26 a33 a34 a35 a36 a46 a47 a48 a49) S)
def e167_2:L19 fM KL uR:=zZ
def kW:Ql:=fun cf a2 a3 a7 a12 a13 a14 a15 a25 a26 a27 a28 a33 a34 a35 a36 a46 a47 a48 a49 S Q=>Q .ret (KL a3 .top a7 .top .top .top .top a25 a26 a27 a28 a33 a34 a35 a36 a46 a47 a48 a49) S
def yk:N19 Xs KL kW:=kN19
def wW:Ql:=fun cf a2 a3 a7 a12 a13 a14 a15 a25 a26 a27 a28 a33 a34 a35 a36 a46 a47 a48 a49 S Q=>OX (A4 .lss .num a14 a13) fun x37=>WB x37
 (OX (Ak 2 a12 a14) fun x38=>OX (AE S 2 true x38) fun x39=>al [.n 0,.z 11] S fun x40 S41=>OX (Ax S41 2 true x40 x39) fun S43=>OX (AO 1 x40) fun x44=>OX (AE S43 1 false x44) fun x45=>OX (AK false x45) fun x46=>OX (A4 .add .num (.n 1) x46) fun x47=>OX (A4 .add .num a3 x47) fun x48=>OX (AO 1 x40) fun x49=>OX (AE S43 1 false x49) fun x50=>OX (AK false x50) fun x51=>W cf (.loop [] fM) (KL a2 x48 a7 a12 a13 a14 .top x50 x51 (.n 0) a28 a33 a34 a35 a36 a46 a47 a48 a49) S43 (Af 2 (Af 1 (QS cf W3 Q))))
 (Q (.exit 0) (KL a2 a3 a7 a12 a13 a14 x37 a25 a26 a27 a28 a33 a34 a35 a36 a46 a47 a48 a49) S)
def e167_3:L19 dV KL wW:=zZ
def s167:EV:=fun cf a0 S Post=>OX (AK false a0) fun x52=>W cf (.loop [] dV) (KL .top (.n 0) .top a0 x52 (.n 0) .top .top .top .top .top .top .top .top .top .top .top .top .top) S (Af 0 (QS cf Xs (Aw [.t 2] Post)))
def j167:J1 167 s167:=xx d167
def s139:Cn:=fun cf a0 a1 S Post=>OX (A0 cf 220 [a0,a1]) fun x1=>OX (A4 .geq .num x1 (.n 0)) fun x2=>Post x2 S
def i139:I2 139 s139:=Oc d139
abbrev bO(a0 a1 a4 a7 a8 a9:D):List D:=B0 19 [(0,a0),(1,a1),(4,a4),(7,a7),(8,a8),(9,a9)]
def ju:Mi:=fun cf a0 a1 a4 a7 a8 a9 S Q=>Q .ret (bO .top .top (.n (-1)) .top .top .top) S
def e220_r0:N6 Wd bO ju:=bK
def qH:Mi:=fun cf a0 a1 a4 a7 a8 a9 S Q=>OX (A4 .lss .num a8 a7) fun x1=>WB x1
 (OX (Ak 2 a0 a8) fun x2=>OX (AE S 2 true x2) fun x3=>OX (NT a1) fun q5=>OX (A0 cf q5.1 ([x3]++q5.2)) fun x4=>WB x4
 (Q .ret (bO .top .top a8 .top .top .top) S)
 (OX (A4 .add .num a8 (.n 1)) fun x6=>Q .normal (bO a0 a1 a4 a7 x6 .top) S))
 (Q (.exit 0) (bO a0 a1 a4 a7 a8 x1) S)
def e220_0:L6 bQ bO qH:=bu
def s220:Cn:=fun cf a0 a1 S Post=>OX (AK false a0) fun x7=>W cf (.loop [] bQ) (bO a0 a1 .top x7 (.n 0) .top) S (Af 0 (QS cf Wd (Aw [.t 4] Post)))
def j220:J2 220 s220:=UE d220
def s149:Cn:=fun cf a0 a1 S Post=>OX (A0 cf 224 [a0,a1]) fun x1=>OX (A4 .geq .num x1 (.n 0)) fun x2=>Post x2 S
def i149:I2 149 s149:=Oc d149
abbrev dQ(a0 a1 a4 a7 a8 a9:D):List D:=B0 19 [(0,a0),(1,a1),(4,a4),(7,a7),(8,a8),(9,a9)]
def jx:Mi:=fun cf a0 a1 a4 a7 a8 a9 S Q=>Q .ret (dQ .top .top (.n (-1)) .top .top .top) S
def AAf:N6 XS dQ jx:=bK
def qv:Mi:=fun cf a0 a1 a4 a7 a8 a9 S Q=>OX (A4 .lss .num a8 a7) fun x1=>WB x1
 (OX (Ak 11 a0 a8) fun x2=>OX (AE S 11 true x2) fun x3=>OX (NT a1) fun q5=>OX (A0 cf q5.1 ([x3]++q5.2)) fun x4=>WB x4
 (Q .ret (dQ .top .top a8 .top .top .top) S)
 (OX (A4 .add .num a8 (.n 1)) fun x6=>Q .normal (dQ a0 a1 a4 a7 x6 .top) S))
 (Q (.exit 0) (dQ a0 a1 a4 a7 a8 x1) S)
def e224_0:L6 eU dQ qv:=bu
def s224:Cn:=fun cf a0 a1 S Post=>OX (AK false a0) fun x7=>W cf (.loop [] eU) (dQ a0 a1 .top x7 (.n 0) .top) S (Af 0 (QS cf XS (Aw [.t 4] Post)))
def j224:J2 224 s224:=UE d224
def s114:Cn:=fun cf a0 a1 S Post=>Cg 2 true a0 S fun x1 S2=>Cg 2 true a1 S2 fun x3 S4=>OX (AO 1 x1) fun x5=>OX (AE S4 1 false x5) fun x6=>OX (AO 1 x3) fun x7=>OX (AE S4 1 false x7) fun x8=>OX (A0 cf 170 [x6,x8,(.fn 171 [])]) fun x9=>Post x9 S4
def e114:E2 d114 s114:=PL
abbrev WU(a0 a1 a2 a6 a11 a12 a13 a14:D):List D:=B0 39 [(0,a0),(1,a1),(2,a2),(6,a6),(11,a11),(12,a12),(13,a13),(14,a14)]
def ij:PW:=fun cf a0 a1 a2 a6 a11 a12 a13 a14 S Q=>OX (AK false a0) fun x1=>OX (AK false a1) fun x2=>OX (A4 .lss .num x1 x2) fun x3=>WB x3
 (Q .ret (WU .top .top .top (.n (-1)) .top .top .top .top) S)
 (Q .ret (WU .top .top .top (.n 0) .top .top .top .top) S)
def e170_r0:N8 Vr WU ij:=uS
def tH:PW:=fun cf a0 a1 a2 a6 a11 a12 a13 a14 S Q=>OX (A4 .lss .num a13 a12) fun x4=>WB x4
 (OX (Ak 11 a11 a13) fun x5=>OX (AE S 11 true x5) fun x6=>al [.n 0,.n 0,.n 0,.z 1,.n 0,.z 4,.n 0,.n 0,.n 0,.s [],.n 0] S fun x7 S8=>OX (Ax S8 11 true x7 x6) fun S10=>OX (AK false a1) fun x11=>OX (A4 .geq .num a13 x11) fun x12=>WB x12
 (Q .ret (WU .top .top .top (.n 1) .top .top .top .top) S10)
 (OX (Ak 11 a1 a13) fun x13=>OX (AE S10 11 true x13) fun x14=>al [.n 0,.n 0,.n 0,.z 1,.n 0,.z 4,.n 0,.n 0,.n 0,.s [],.n 0] S10 fun x15 S16=>OX (Ax S16 11 true x15 x14) fun S18=>OX (AE S18 11 true x7) fun x19=>OX (AE S18 11 true x15) fun x20=>OX (NT a2) fun q22=>OX (A0 cf q22.1 ([x19,x20]++q22.2)) fun x21=>OX (A4 .neq .num x21 (.n 0)) fun x23=>WB x23
 (Q .ret (WU .top .top .top x21 .top .top .top .top) S18)
 (OX (A4 .add .num a13 (.n 1)) fun x24=>Q .normal (WU a0 a1 a2 a6 a11 a12 x24 .top) S18)))
 (Q (.exit 0) (WU a0 a1 a2 a6 a11 a12 a13 x4) S)
def e170_0:L8 dD WU tH:=uA
def s170:Pq:=fun cf a0 a1 a2 S Post=>OX (AK false a0) fun x25=>W cf (.loop [] dD) (WU a0 a1 a2 .top a0 x25 (.n 0) .top) S (Af 0 (QS cf Vr (Aw [.t 6] Post)))
def e170:E3 d170 s170:=yG
def s171:Cn:=fun cf a0 a1 S Post=>Cg 11 true a0 S fun x1 S2=>Cg 11 true a1 S2 fun x3 S4=>OX (AO 0 x1) fun x5=>OX (AE S4 10 true x5) fun x6=>OX (AO 0 x3) fun x7=>OX (AE S4 10 true x7) fun x8=>OX (A0 cf 116 [x6,x8]) fun x9=>OX (AO 10 x1) fun x10=>OX (AE S4 1 false x10) fun x11=>OX (AO 10 x3) fun x12=>OX (AE S4 1 false x12) fun x13=>OX (A0 cf 144 [x11,x13]) fun x14=>OX (AV 1 false [x9,x14]) fun x15=>OX (A0 cf 172 [(.sl 1 false x15 .ro)]) fun x16=>Post x16 S4
def e171:E2 d171 s171:=PL
section
open Go
set_option maxRecDepth 20000
def JW:EV:=fun cf a0 S Post=>Cg 10 true a0 S fun x1 S2=>OX (AO 0 x1) fun x3=>OX (AE S2 1 false x3) fun x4=>OX (A4 .neq .num x4 (.n 4)) fun x5=>OX (A8 x5 true (AO 4 x1)) fun x6=>OX (A8 x5 true (AE S2 1 false x6)) fun x7=>OX (A8 x5 true (A4 .neq .num x7 (.n 0))) fun x8=>OX (A8 x5 true (some x8)) fun x9=>OX (A8 x9 false (AO 5 x1)) fun x10=>OX (A8 x9 false (AE S2 1 false x10)) fun x11=>OX (A8 x9 false (AK false x11)) fun x12=>OX (A8 x9 false (A4 .neq .num x12 (.n 0))) fun x13=>OX (A8 x5 true (AU x9 (.b true) x13)) fun x14=>OX (A8 x5 true (some x14)) fun x15=>OX (A8 x15 false (AO 6 x1)) fun x16=>OX (A8 x15 false (AE S2 1 false x16)) fun x17=>OX (A8 x15 false (A4 .neq .num x17 (.n 0))) fun x18=>OX (A8 x5 true (AU x15 (.b true) x18)) fun x19=>OX (A8 x5 true (some x19)) fun x20=>OX (A8 x20 false (AO 7 x1)) fun x21=>OX (A8 x20 false (AE S2 3 true x21)) fun x22=>OX (A8 x20 false ((B8 [.n 0,.n 0,.s []] []).map .agg)) fun x23=>OX (A8 x20 false (A4 .neq (.agg [.i,.i,.s]) x22 x23)) fun x24=>OX (A8 x5 true (AU x20 (.b true) x24)) fun x25=>OX (AU x5 x25 (.b false)) fun x26=>OX (A8 x26 false (AO 0 x1)) fun x27=>OX (A8 x26 false (AE S2 1 false x27)) fun x28=>OX (A8 x26 false (A4 .neq .num x28 (.n 0))) fun x29=>OX (A8 x26 false (some x29)) fun x30=>OX (A8 x30 true (AO 1 x1)) fun x31=>OX (A8 x30 true (AE S2 2 true x31)) fun x32=>OX (A8 x30 true ((B8 [.n 0,.n 0] []).map .agg)) fun x33=>OX (A8 x30 true (A4 .neq (.agg [.i,.i]) x32 x33)) fun x34=>OX (A8 x26 false (AU x30 x34 (.b false))) fun x35=>OX (AU x26 (.b true) x35) fun x36=>OX (A8 x36 false (AO 3 x1)) fun x37=>OX (A8 x36 false (AE S2 1 false x37)) fun x38=>OX (A8 x36 false (A0 cf 151 [x38,(.fn 178 [])])) fun x39=>OX (AU x36 (.b true) x39) fun x40=>WB x40
 (Post (.b false) S2)
 (OX (AO 0 x1) fun x41=>OX (AE S2 1 false x41) fun x42=>OX (A4 .eql .num x42 (.n 0)) fun x43=>WB x43
 (OX (AO 1 x1) fun x44=>OX (AE S2 2 true x44) fun x45=>OX (A0 cf 52 [x45]) fun x46=>OX (A8 x46 true (AO 3 x1)) fun x47=>OX (A8 x46 true (AE S2 1 false x47)) fun x48=>OX (A8 x46 true (AK false x48)) fun x49=>OX (A8 x46 true (A4 .eql .num x49 (.n 0))) fun x50=>OX (AU x46 x50 (.b false)) fun x51=>Post x51 S2)
 (OX (A4 .eql .num x42 (.n 1)) fun x52=>WB x52
 (OX (AO 3 x1) fun x53=>OX (AE S2 1 false x53) fun x54=>OX (AK false x54) fun x55=>OX (A4 .eql .num x55 (.n 2)) fun x56=>OX (A8 x56 true (AO 3 x1)) fun x57=>OX (A8 x56 true (AE S2 1 false x57)) fun x58=>OX (A8 x56 true (Ak 1 x58 (.n 0))) fun x59=>OX (A8 x56 true (AE S2 1 false x59)) fun x60=>OX (A8 x56 true (AO 3 x1)) fun x61=>OX (A8 x56 true (AE S2 1 false x61)) fun x62=>OX (A8 x56 true (Ak 1 x62 (.n 1))) fun x63=>OX (A8 x56 true (AE S2 1 false x63)) fun x64=>OX (A8 x56 true (A0 cf 179 [x60,x64])) fun x65=>OX (A8 x56 true (ES .not x65)) fun x66=>OX (AU x56 x66 (.b false)) fun x67=>Post x67 S2)
 (OX (A4 .eql .num x42 (.n 2)) fun x68=>WB x68
 (OX (AO 3 x1) fun x69=>OX (AE S2 1 false x69) fun x70=>OX (AK false x70) fun x71=>OX (A4 .eql .num x71 (.n 1)) fun x72=>OX (A8 x72 true (AO 3 x1)) fun x73=>OX (A8 x72 true (AE S2 1 false x73)) fun x74=>OX (A8 x72 true (Ak 1 x74 (.n 0))) fun x75=>OX (A8 x72 true (AE S2 1 false x75)) fun x76=>OX (A8 x72 true (A0 cf 180 [x76])) fun x77=>OX (A8 x72 true (ES .not x77)) fun x78=>OX (AU x72 x78 (.b false)) fun x79=>OX (A8 x79 true (AO 3 x1)) fun x80=>OX (A8 x79 true (AE S2 1 false x80)) fun x81=>OX (A8 x79 true (Ak 1 x81 (.n 0))) fun x82=>OX (A8 x79 true (AE S2 1 false x82)) fun x83=>OX (A8 x79 true (A0 cf 181 [x83])) fun x84=>OX (A8 x79 true (ES .not x84)) fun x85=>OX (AU x79 x85 (.b false)) fun x86=>Post x86 S2)
 (OX (A4 .eql .num x42 (.n 3)) fun x87=>WB x87
 (OX (AO 3 x1) fun x88=>OX (AE S2 1 false x88) fun x89=>OX (AK false x89) fun x90=>OX (A4 .eql .num x90 (.n 1)) fun x91=>OX (A8 x91 true (AO 3 x1)) fun x92=>OX (A8 x91 true (AE S2 1 false x92)) fun x93=>OX (A8 x91 true (Ak 1 x93 (.n 0))) fun x94=>OX (A8 x91 true (AE S2 1 false x94)) fun x95=>OX (A8 x91 true (A0 cf 77 [x95])) fun x96=>OX (A8 x91 true (ES .not x96)) fun x97=>OX (AU x91 x97 (.b false)) fun x98=>Post x98 S2)
 (OX (A4 .eql .num x42 (.n 4)) fun x99=>WB x99
 (OX (AO 5 x1) fun x100=>OX (AE S2 1 false x100) fun x101=>OX (A0 cf 182 [x101,(.fn 183 [])]) fun x102=>OX (AO 3 x1) fun x103=>OX (AE S2 1 false x103) fun x104=>OX (AK false x104) fun x105=>OX (A4 .eql .num x105 (.n 0)) fun x106=>OX (A8 x106 true (AO 5 x1)) fun x107=>OX (A8 x106 true (AE S2 1 false x107)) fun x108=>OX (A8 x106 true (AK false x108)) fun x109=>OX (A8 x106 true (A4 .gtr .num x109 (.n 0))) fun x110=>OX (AU x106 x110 (.b false)) fun x111=>OX (A8 x111 true (some x102)) fun x112=>OX (A8 x111 true (ES .not x112)) fun x113=>OX (AU x111 x113 (.b false)) fun x114=>OX (A8 x114 true (AO 5 x1)) fun x115=>OX (A8 x114 true (AE S2 1 false x115)) fun x116=>OX (A8 x114 true (A0 cf 184 [x116,(.fn 176 [])])) fun x117=>OX (AU x114 x117 (.b false)) fun x118=>OX (A8 x118 true (AO 4 x1)) fun x119=>OX (A8 x118 true (AE S2 1 false x119)) fun x120=>OX (A8 x118 true (AO 5 x1)) fun x121=>OX (A8 x118 true (AE S2 1 false x121)) fun x122=>OX (A8 x118 true (AO 6 x1)) fun x123=>OX (A8 x118 true (AE S2 1 false x123)) fun x124=>OX (A8 x118 true (AO 7 x1)) fun x125=>OX (A8 x118 true (AE S2 3 true x125)) fun x126=>OX (A8 x118 true (A0 cf 185 [x120,x122,x124,x126])) fun x127=>OX (AU x118 x127 (.b false)) fun x128=>Post x128 S2)
 (Post (.b false) S2))))))
def i117:I1 117 JW:=JF d117
def s178:EV:=fun cf a0 S Post=>OX (A0 cf 62 [a0]) fun x1=>OX (ES .not x1) fun x2=>OX (A8 x2 false (some a0)) fun x3=>OX (A8 x2 false (AK false x3)) fun x4=>OX (A8 x2 false (A4 .eql .num x4 (.n 0))) fun x5=>OX (AU x2 (.b true) x5) fun x6=>Post x6 S
def i178:I1 178 s178:=JF d178
def s183:EV:=fun cf a0 S Post=>Cg 4 true a0 S fun x1 S2=>OX (AO 3 x1) fun x3=>OX (AE S2 1 false x3) fun x4=>OX (A0 cf 62 [x4]) fun x5=>OX (ES .not x5) fun x6=>OX (A8 x6 false (AO 3 x1)) fun x7=>OX (A8 x6 false (AE S2 1 false x7)) fun x8=>OX (A8 x6 false (AK false x8)) fun x9=>OX (A8 x6 false (A4 .eql .num x9 (.n 0))) fun x10=>OX (AU x6 (.b true) x10) fun x11=>Post x11 S2
def i183:I1 183 s183:=JF d183
def s151:Cn:=fun cf a0 a1 S Post=>OX (A0 cf 225 [a0,a1]) fun x1=>OX (A4 .geq .num x1 (.n 0)) fun x2=>Post x2 S
def i151:I2 151 s151:=Oc d151
abbrev eO(a0 a1 a4 a7 a8 a9:D):List D:=B0 19 [(0,a0),(1,a1),(4,a4),(7,a7),(8,a8),(9,a9)]
def gj:Mi:=fun cf a0 a1 a4 a7 a8 a9 S Q=>Q .ret (eO .top .top (.n (-1)) .top .top .top) S
def AAi:N6 Wp eO gj:=bK
def uP:Mi:=fun cf a0 a1 a4 a7 a8 a9 S Q=>OX (A4 .lss .num a8 a7) fun x1=>WB x1
 (OX (Ak 1 a0 a8) fun x2=>OX (AE S 1 false x2) fun x3=>OX (NT a1) fun q5=>OX (A0 cf q5.1 ([x3]++q5.2)) fun x4=>WB x4
 (Q .ret (eO .top .top a8 .top .top .top) S)
 (OX (A4 .add .num a8 (.n 1)) fun x6=>Q .normal (eO a0 a1 a4 a7 x6 .top) S))
 (Q (.exit 0) (eO a0 a1 a4 a7 a8 x1) S)
def e225_0:L6 cE eO uP:=bu
def s225:Cn:=fun cf a0 a1 S Post=>OX (AK false a0) fun x7=>W cf (.loop [] cE) (eO a0 a1 .top x7 (.n 0) .top) S (Af 0 (QS cf Wp (Aw [.t 4] Post)))
def j225:J2 225 s225:=UE d225
def s176:Cn:=fun cf a0 a1 S Post=>Cg 4 true a0 S fun x1 S2=>Cg 4 true a1 S2 fun x3 S4=>OX (AO 0 x1) fun x5=>OX (AE S4 3 true x5) fun x6=>OX (AO 0 x3) fun x7=>OX (AE S4 3 true x7) fun x8=>OX (A0 cf 177 [x6,x8]) fun x9=>OX (AO 3 x1) fun x10=>OX (AE S4 1 false x10) fun x11=>OX (AO 3 x3) fun x12=>OX (AE S4 1 false x12) fun x13=>OX (A0 cf 174 [x11,x13]) fun x14=>OX (AV 1 false [x9,x14]) fun x15=>OX (A0 cf 172 [(.sl 1 false x15 .ro)]) fun x16=>Post x16 S4
def e176:E2 d176 s176:=PL
def s179:Cn:=fun cf a0 a1 S Post=>OX (A0 cf 174 [a0,a1]) fun x1=>OX (A4 .eql .num x1 (.n 0)) fun x2=>Post x2 S
def i179:I2 179 s179:=Oc d179
def s174:Cn:=fun cf a0 a1 S Post=>OX (A0 cf 245 [a0,a1,(.fn 246 [])]) fun x1=>Post x1 S
def e174:E2 d174 s174:=PL
abbrev XN(a0 a1 a2 a6 a11 a12 a13 a14:D):List D:=B0 39 [(0,a0),(1,a1),(2,a2),(6,a6),(11,a11),(12,a12),(13,a13),(14,a14)]
def jG:PW:=fun cf a0 a1 a2 a6 a11 a12 a13 a14 S Q=>OX (AK false a0) fun x1=>OX (AK false a1) fun x2=>OX (A4 .lss .num x1 x2) fun x3=>WB x3
 (Q .ret (XN .top .top .top (.n (-1)) .top .top .top .top) S)
 (Q .ret (XN .top .top .top (.n 0) .top .top .top .top) S)
def AAm:N8 WV XN jG:=uS
def tv:PW:=fun cf a0 a1 a2 a6 a11 a12 a13 a14 S Q=>OX (A4 .lss .num a13 a12) fun x4=>WB x4
 (OX (Ak 2 a11 a13) fun x5=>OX (AE S 2 true x5) fun x6=>al [.n 0,.z 11] S fun x7 S8=>OX (Ax S8 2 true x7 x6) fun S10=>OX (AK false a1) fun x11=>OX (A4 .geq .num a13 x11) fun x12=>WB x12
 (Q .ret (XN .top .top .top (.n 1) .top .top .top .top) S10)
 (OX (Ak 2 a1 a13) fun x13=>OX (AE S10 2 true x13) fun x14=>al [.n 0,.z 11] S10 fun x15 S16=>OX (Ax S16 2 true x15 x14) fun S18=>OX (AE S18 2 true x7) fun x19=>OX (AE S18 2 true x15) fun x20=>OX (NT a2) fun q22=>OX (A0 cf q22.1 ([x19,x20]++q22.2)) fun x21=>OX (A4 .neq .num x21 (.n 0)) fun x23=>WB x23
 (Q .ret (XN .top .top .top x21 .top .top .top .top) S18)
 (OX (A4 .add .num a13 (.n 1)) fun x24=>Q .normal (XN a0 a1 a2 a6 a11 a12 x24 .top) S18)))
 (Q (.exit 0) (XN a0 a1 a2 a6 a11 a12 a13 x4) S)
def e245_0:L8 fR XN tv:=uA
def s245:Pq:=fun cf a0 a1 a2 S Post=>OX (AK false a0) fun x25=>W cf (.loop [] fR) (XN a0 a1 a2 .top a0 x25 (.n 0) .top) S (Af 0 (QS cf WV (Aw [.t 6] Post)))
def e245:E3 d245 s245:=yG
def s246:Cn:=fun cf a0 a1 S Post=>Cg 2 true a0 S fun x1 S2=>Cg 2 true a1 S2 fun x3 S4=>OX (AE S4 2 true x1) fun x5=>OX (AE S4 2 true x3) fun x6=>OX (A0 cf 114 [x5,x6]) fun x7=>OX (AO 0 x1) fun x8=>OX (AE S4 1 false x8) fun x9=>OX (AO 0 x3) fun x10=>OX (AE S4 1 false x10) fun x11=>OX (A0 cf 247 [x9,x11]) fun x12=>OX (AV 1 false [x7,x12]) fun x13=>OX (A0 cf 172 [(.sl 1 false x13 .ro)]) fun x14=>Post x14 S4
def e246:E2 d246 s246:=PL
def s180:EV:=fun cf a0 S Post=>OX (AK false a0) fun x1=>OX (A4 .eql .num x1 (.n 1)) fun x2=>OX (A8 x2 true (some a0)) fun x3=>OX (A8 x2 true (Ak 2 x3 (.n 0))) fun x4=>OX (A8 x2 true (AO 1 x4)) fun x5=>OX (A8 x2 true (AE S 1 false x5)) fun x6=>OX (A8 x2 true (AK false x6)) fun x7=>OX (A8 x2 true (A4 .eql .num x7 (.n 0))) fun x8=>OX (AU x2 x8 (.b false)) fun x9=>Post x9 S
def i180:I1 180 s180:=JF d180
def aw:EV:=fun cf a0 S Post=>OX (AK false a0) fun x1=>OX (A4 .neq .num x1 (.n 1)) fun x2=>OX (A8 x2 false (some a0)) fun x3=>OX (A8 x2 false (Ak 2 x3 (.n 0))) fun x4=>OX (A8 x2 false (AO 0 x4)) fun x5=>OX (A8 x2 false (AE S 1 false x5)) fun x6=>OX (A8 x2 false (A4 .neq .num x6 (.n 1))) fun x7=>OX (AU x2 (.b true) x7) fun x8=>OX (A8 x8 false (some a0)) fun x9=>OX (A8 x8 false (Ak 2 x9 (.n 0))) fun x10=>OX (A8 x8 false (AO 1 x10)) fun x11=>OX (A8 x8 false (AE S 1 false x11)) fun x12=>OX (A8 x8 false (AK false x12)) fun x13=>OX (A8 x8 false (A4 .neq .num x13 (.n 1))) fun x14=>OX (AU x8 (.b true) x14) fun x15=>WB x15
 (Post (.b false) S)
 (OX (Ak 2 a0 (.n 0)) fun x16=>OX (AO 1 x16) fun x17=>OX (AE S 1 false x17) fun x18=>OX (Ak 11 x18 (.n 0)) fun x19=>OX (AE S 11 true x19) fun x20=>al [.n 0,.n 0,.n 0,.z 1,.n 0,.z 4,.n 0,.n 0,.n 0,.s [],.n 0] S fun x21 S22=>OX (Ax S22 11 true x21 x20) fun S24=>OX (AO 10 x21) fun x25=>OX (AE S24 1 false x25) fun x26=>OX (A4 .eql .num x26 (.n 1)) fun x27=>OX (A8 x27 true (AO 0 x21)) fun x28=>OX (A8 x27 true (AO 0 x28)) fun x29=>OX (A8 x27 true (AE S24 1 false x29)) fun x30=>OX (A8 x27 true (A4 .eql .num x30 (.n 2))) fun x31=>OX (A8 x27 true (some x31)) fun x32=>OX (A8 x32 false (AO 0 x21)) fun x33=>OX (A8 x32 false (AE S24 10 true x33)) fun x34=>OX (A8 x32 false (A0 cf 115 [x34])) fun x35=>OX (A8 x27 true (AU x32 (.b true) x35)) fun x36=>OX (AU x27 x36 (.b false)) fun x37=>Post x37 S24)
def i181:I1 181 aw:=JF d181
def s115:EV:=fun cf a0 S Post=>Cg 10 true a0 S fun x1 S2=>OX (AO 0 x1) fun x3=>OX (AE S2 1 false x3) fun x4=>OX (A4 .eql .num x4 (.n 3)) fun x5=>OX (A8 x5 false (AO 0 x1)) fun x6=>OX (A8 x5 false (AE S2 1 false x6)) fun x7=>OX (A8 x5 false (A4 .eql .num x7 (.n 4))) fun x8=>OX (AU x5 (.b true) x8) fun x9=>Post x9 S2
def i115:I1 115 s115:=JF d115
def s77:EV:=fun cf a0 S Post=>OX (A0 cf 139 [a0,(.fn 140 [])]) fun x1=>Post x1 S
def i77:I1 77 s77:=JF d77
def s140:EV:=fun cf a0 S Post=>Cg 2 true a0 S fun x1 S2=>OX (AO 1 x1) fun x3=>OX (AE S2 1 false x3) fun x4=>OX (AK false x4) fun x5=>OX (A4 .eql .num x5 (.n 0)) fun x6=>Post x6 S2
def i140:I1 140 s140:=JF d140
def s182:Cn:=fun cf a0 a1 S Post=>OX (A0 cf 249 [a0,a1]) fun x1=>OX (A4 .geq .num x1 (.n 0)) fun x2=>Post x2 S
def i182:I2 182 s182:=Oc d182
abbrev bH(a0 a1 a4 a7 a8 a9:D):List D:=B0 19 [(0,a0),(1,a1),(4,a4),(7,a7),(8,a8),(9,a9)]
def kV:Mi:=fun cf a0 a1 a4 a7 a8 a9 S Q=>Q .ret (bH .top .top (.n (-1)) .top .top .top) S
def AA1:N6 Wq bH kV:=bK
def rN:Mi:=fun cf a0 a1 a4 a7 a8 a9 S Q=>OX (A4 .lss .num a8 a7) fun x1=>WB x1
 (OX (Ak 4 a0 a8) fun x2=>OX (AE S 4 true x2) fun x3=>OX (NT a1) fun q5=>OX (A0 cf q5.1 ([x3]++q5.2)) fun x4=>WB x4
 (Q .ret (bH .top .top a8 .top .top .top) S)
 (OX (A4 .add .num a8 (.n 1)) fun x6=>Q .normal (bH a0 a1 a4 a7 x6 .top) S))
 (Q (.exit 0) (bH a0 a1 a4 a7 a8 x1) S)
def e249_0:L6 eZ bH rN:=bu
def s249:Cn:=fun cf a0 a1 S Post=>OX (AK false a0) fun x7=>W cf (.loop [] eZ) (bH a0 a1 .top x7 (.n 0) .top) S (Af 0 (QS cf Wq (Aw [.t 4] Post)))
def j249:J2 249 s249:=UE d249
def s185:lX:=fun cf a0 a1 a2 a3 S Post=>Cg 1 false a0 S fun x1 S2=>Cg 3 true a3 S2 fun x3 S4=>OX (AE S4 1 false x1) fun x5=>OX (A4 .lss .num x5 (.n 0)) fun x6=>OX (A8 x6 false (AE S4 1 false x1)) fun x7=>OX (A8 x6 false (A4 .gtr .num x7 (.n 3))) fun x8=>OX (AU x6 (.b true) x8) fun x9=>OX (A8 x9 false (some a2)) fun x10=>OX (A8 x9 false (A4 .lss .num x10 (.n 5))) fun x11=>OX (AU x9 (.b true) x11) fun x12=>OX (A8 x12 false (some a2)) fun x13=>OX (A8 x12 false (A4 .gtr .num x13 (.n 10))) fun x14=>OX (AU x12 (.b true) x14) fun x15=>OX (A8 x15 false (AE S4 3 true x3)) fun x16=>OX (A8 x15 false (A0 cf 250 [x16])) fun x17=>OX (A8 x15 false (ES .not x17)) fun x18=>OX (AU x15 (.b true) x18) fun x19=>WB x19
 (Post (.b false) S4)
 (OX (AE S4 1 false x1) fun x20=>OX (A4 .eql .num x20 (.n 0)) fun x21=>OX (A8 x21 false (AE S4 1 false x1)) fun x22=>OX (A8 x21 false (A4 .eql .num x22 (.n 1))) fun x23=>OX (AU x21 (.b true) x23) fun x24=>OX (A8 x24 true (AO 0 x3)) fun x25=>OX (A8 x24 true (AE S4 1 false x25)) fun x26=>OX (A8 x24 true (A4 .neq .num x26 (.n 0))) fun x27=>OX (AU x24 x27 (.b false)) fun x28=>WB x28
 (Post (.b false) S4)
 (OX (cf 2182 [a1,(.fn 251 [x3,x1])] S4) fun p30=>OX (ES .not p30.1) fun x31=>Post x31 p30.2))
def i185:I4 185 s185:=mI4 d185
def s251:Pq:=fun cf a0 a1 a2 S Post=>Cg 4 true a0 S fun x1 S2=>OX (AO 0 x1) fun x3=>OX (AE S2 3 true x3) fun x4=>OX (A0 cf 250 [x4]) fun x5=>OX (ES .not x5) fun x6=>OX (A8 x6 false (AO 0 x1)) fun x7=>OX (A8 x6 false (AO 0 x7)) fun x8=>OX (A8 x6 false (AE S2 1 false x8)) fun x9=>OX (A8 x6 false (AO 0 a1)) fun x10=>OX (A8 x6 false (AE S2 1 false x10)) fun x11=>OX (A8 x6 false (A4 .neq .num x9 x11)) fun x12=>OX (AU x6 (.b true) x12) fun x13=>OX (A8 x13 false (AE S2 1 false a2)) fun x14=>OX (A8 x13 false (A4 .eql .num x14 (.n 0))) fun x15=>OX (A8 x13 false (some x15)) fun x16=>OX (A8 x16 true (AO 0 x1)) fun x17=>OX (A8 x16 true (AO 1 x17)) fun x18=>OX (A8 x16 true (AE S2 1 false x18)) fun x19=>OX (A8 x16 true (A4 .neq .num x19 (.n 1))) fun x20=>OX (A8 x13 false (AU x16 x20 (.b false))) fun x21=>OX (AU x13 (.b true) x21) fun x22=>Post x22 S2
def f251:F3 251 s251:=mF3 d251
def s2182:Cn:=fun cf a0 a1 S Post=>OX (cf 2249 [a0,a1] S) fun p2=>OX (A4 .geq .num p2.1 (.n 0)) fun x3=>Post x3 p2.2
def f2182:F2 2182 s2182:=eR d2182
abbrev SJ(a0 a1 a4 a7 a8 a9:D):List D:=B0 19 [(0,a0),(1,a1),(4,a4),(7,a7),(8,a8),(9,a9)]
def Zi:Mi:=fun cf a0 a1 a4 a7 a8 a9 S Q=>Q .ret (SJ .top .top (.n (-1)) .top .top .top) S
def uK:N6 Sp SJ Zi:=bK
def jk:Mi:=fun cf a0 a1 a4 a7 a8 a9 S Q=>OX (A4 .lss .num a8 a7) fun x1=>WB x1
 (OX (Ak 4 a0 a8) fun x2=>OX (AE S 4 true x2) fun x3=>OX (NT a1) fun q5=>OX (cf q5.1 ([x3]++q5.2) S) fun p6=>WB p6.1
 (Q .ret (SJ .top .top a8 .top .top .top) p6.2)
 (OX (A4 .add .num a8 (.n 1)) fun x7=>Q .normal (SJ a0 a1 a4 a7 x7 .top) p6.2))
 (Q (.exit 0) (SJ a0 a1 a4 a7 a8 x1) S)
def e2249_0:L6 WJ SJ jk:=bu
def s2249:Cn:=fun cf a0 a1 S Post=>OX (AK false a0) fun x8=>W cf (.loop [] WJ) (SJ a0 a1 .top x8 (.n 0) .top) S (Af 0 (QS cf Sp (Aw [.t 4] Post)))
def f2249:F2 2249 s2249:=eR d2249
abbrev fQ(a0 a1 a4 a5 a10:D):List D:=B0 25 [(0,a0),(1,a1),(4,a4),(5,a5),(10,a10)]
def fw:V7:=fun cf a0 a1 a4 a5 a10 S Q=>Q .ret (fQ .top .top (.b true) .top .top) S
def e184_r0:N5 W8 fQ fw:=kN5
def sB:V7:=fun cf a0 a1 a4 a5 a10 S Q=>OX (A4 .gtr .num a5 (.n 0)) fun x1=>WB x1
 (OX (Ak 4 a0 a5) fun x2=>OX (AE S 4 true x2) fun x3=>OX (A4 .sub .num a5 (.n 1)) fun x4=>OX (Ak 4 a0 x4) fun x5=>OX (AE S 4 true x5) fun x6=>OX (NT a1) fun q8=>OX (A0 cf q8.1 ([x3,x6]++q8.2)) fun x7=>OX (A4 .lss .num x7 (.n 0)) fun x9=>WB x9
 (Q .ret (fQ .top .top (.b false) .top .top) S)
 (OX (A4 .sub .num a5 (.n 1)) fun x10=>Q .normal (fQ a0 a1 a4 x10 .top) S))
 (Q (.exit 0) (fQ a0 a1 a4 a5 x1) S)
def e184_0:L5 cz fQ sB:=kL5
def s184:Cn:=fun cf a0 a1 S Post=>OX (AK false a0) fun x11=>OX (A4 .sub .num x11 (.n 1)) fun x12=>W cf (.loop [] cz) (fQ a0 a1 .top x12 .top) S (Af 0 (QS cf W8 (Aw [.t 4] Post)))
def i184:I2 184 s184:=Oc d184
abbrev Xg(a0 a1 a2 a6 a11 a12 a13 a14:D):List D:=B0 39 [(0,a0),(1,a1),(2,a2),(6,a6),(11,a11),(12,a12),(13,a13),(14,a14)]
def gN:PW:=fun cf a0 a1 a2 a6 a11 a12 a13 a14 S Q=>OX (AK false a0) fun x1=>OX (AK false a1) fun x2=>OX (A4 .lss .num x1 x2) fun x3=>WB x3
 (Q .ret (Xg .top .top .top (.n (-1)) .top .top .top .top) S)
 (Q .ret (Xg .top .top .top (.n 0) .top .top .top .top) S)
def e175_r0:N8 Xq Xg gN:=uS
def qo:PW:=fun cf a0 a1 a2 a6 a11 a12 a13 a14 S Q=>OX (A4 .lss .num a13 a12) fun x4=>WB x4
 (OX (Ak 4 a11 a13) fun x5=>OX (AE S 4 true x5) fun x6=>al [.n 0,.n 0,.s [],.z 2] S fun x7 S8=>OX (Ax S8 4 true x7 x6) fun S10=>OX (AK false a1) fun x11=>OX (A4 .geq .num a13 x11) fun x12=>WB x12
 (Q .ret (Xg .top .top .top (.n 1) .top .top .top .top) S10)
 (OX (Ak 4 a1 a13) fun x13=>OX (AE S10 4 true x13) fun x14=>al [.n 0,.n 0,.s [],.z 2] S10 fun x15 S16=>OX (Ax S16 4 true x15 x14) fun S18=>OX (AE S18 4 true x7) fun x19=>OX (AE S18 4 true x15) fun x20=>OX (NT a2) fun q22=>OX (A0 cf q22.1 ([x19,x20]++q22.2)) fun x21=>OX (A4 .neq .num x21 (.n 0)) fun x23=>WB x23
 (Q .ret (Xg .top .top .top x21 .top .top .top .top) S18)
 (OX (A4 .add .num a13 (.n 1)) fun x24=>Q .normal (Xg a0 a1 a2 a6 a11 a12 x24 .top) S18)))
 (Q (.exit 0) (Xg a0 a1 a2 a6 a11 a12 a13 x4) S)
def e175_0:L8 bN Xg qo:=uA
def s175:Pq:=fun cf a0 a1 a2 S Post=>OX (AK false a0) fun x25=>W cf (.loop [] bN) (Xg a0 a1 a2 .top a0 x25 (.n 0) .top) S (Af 0 (QS cf Xq (Aw [.t 6] Post)))
def e175:E3 d175 s175:=yG
def s177:Cn:=fun cf a0 a1 S Post=>Cg 3 true a0 S fun x1 S2=>Cg 3 true a1 S2 fun x3 S4=>OX (AO 0 x1) fun x5=>OX (AE S4 1 false x5) fun x6=>OX (AO 0 x3) fun x7=>OX (AE S4 1 false x7) fun x8=>OX (A0 cf 144 [x6,x8]) fun x9=>OX (AO 1 x1) fun x10=>OX (AE S4 1 false x10) fun x11=>OX (AO 1 x3) fun x12=>OX (AE S4 1 false x12) fun x13=>OX (A0 cf 247 [x11,x13]) fun x14=>OX (AO 2 x1) fun x15=>OX (AE S4 1 false x15) fun x16=>OX (AO 2 x3) fun x17=>OX (AE S4 1 false x17) fun x18=>OX (A0 cf 248 [x16,x18]) fun x19=>OX (AV 1 false [x9,x14,x19]) fun x20=>OX (A0 cf 172 [(.sl 1 false x20 .ro)]) fun x21=>Post x21 S4
def e177:E2 d177 s177:=PL
def s250:EV:=fun cf a0 S Post=>Cg 3 true a0 S fun x1 S2=>OX (AO 0 x1) fun x3=>OX (AE S2 1 false x3) fun x4=>OX (A4 .eql .num x4 (.n 0)) fun x5=>WB x5
 (OX (AO 2 x1) fun x6=>OX (AE S2 1 false x6) fun x7=>OX (A4 .eql .str x7 (.s [])) fun x8=>Post x8 S2)
 (OX (A4 .eql .num x4 (.n 1)) fun x9=>WB x9
 (OX (AO 1 x1) fun x10=>OX (AE S2 1 false x10) fun x11=>OX (A4 .eql .num x11 (.n 0)) fun x12=>OX (A8 x12 true (AO 2 x1)) fun x13=>OX (A8 x12 true (AE S2 1 false x13)) fun x14=>OX (A8 x12 true (AK true x14)) fun x15=>OX (A8 x12 true (A4 .leq .num x15 (.n 255))) fun x16=>OX (AU x12 x16 (.b false)) fun x17=>Post x17 S2)
 (OX (A4 .eql .num x4 (.n 2)) fun x18=>WB x18
 (OX (AO 1 x1) fun x19=>OX (AE S2 1 false x19) fun x20=>OX (A4 .eql .num x20 (.n 0)) fun x21=>OX (A8 x21 false (AO 1 x1)) fun x22=>OX (A8 x21 false (AE S2 1 false x22)) fun x23=>OX (A8 x21 false (A4 .eql .num x23 (.n 1))) fun x24=>OX (AU x21 (.b true) x24) fun x25=>OX (A8 x25 true (AO 2 x1)) fun x26=>OX (A8 x25 true (AE S2 1 false x26)) fun x27=>OX (A8 x25 true (A4 .eql .str x27 (.s []))) fun x28=>OX (AU x25 x28 (.b false)) fun x29=>Post x29 S2)
 (Post (.b false) S2)))
def i250:I1 250 s250:=JF d250
def s248:Cn:=fun cf a0 a1 S Post=>OX (A0 cf 313 [a0,a1]) fun x1=>Post x1 S
def e248:E2 d248 s248:=PL
abbrev XI(a0 a1 a2 a6 a11 a12 a13 a14:D):List D:=B0 39 [(0,a0),(1,a1),(2,a2),(6,a6),(11,a11),(12,a12),(13,a13),(14,a14)]
def iP:PW:=fun cf a0 a1 a2 a6 a11 a12 a13 a14 S Q=>OX (AK false a0) fun x1=>OX (AK false a1) fun x2=>OX (A4 .lss .num x1 x2) fun x3=>WB x3
 (Q .ret (XI .top .top .top (.n (-1)) .top .top .top .top) S)
 (Q .ret (XI .top .top .top (.n 0) .top .top .top .top) S)
def zD:N8 X3 XI iP:=uS
def tK:PW:=fun cf a0 a1 a2 a6 a11 a12 a13 a14 S Q=>OX (A4 .lss .num a13 a12) fun x4=>WB x4
 (OX (Ak 1 a11 a13) fun x5=>OX (AE S 1 false x5) fun x6=>OX (AK false a1) fun x7=>OX (A4 .geq .num a13 x7) fun x8=>WB x8
 (Q .ret (XI .top .top .top (.n 1) .top .top .top .top) S)
 (OX (Ak 1 a1 a13) fun x9=>OX (AE S 1 false x9) fun x10=>OX (NT a2) fun q12=>OX (A0 cf q12.1 ([x6,x10]++q12.2)) fun x11=>OX (A4 .neq .num x11 (.n 0)) fun x13=>WB x13
 (Q .ret (XI .top .top .top x11 .top .top .top .top) S)
 (OX (A4 .add .num a13 (.n 1)) fun x14=>Q .normal (XI a0 a1 a2 a6 a11 a12 x14 .top) S)))
 (Q (.exit 0) (XI a0 a1 a2 a6 a11 a12 a13 x4) S)
def e173_0:L8 fJ XI tK:=uA
def s173:Pq:=fun cf a0 a1 a2 S Post=>OX (AK false a0) fun x15=>W cf (.loop [] fJ) (XI a0 a1 a2 .top a0 x15 (.n 0) .top) S (Af 0 (QS cf X3 (Aw [.t 6] Post)))
def e173:E3 d173 s173:=yG
end
end Go.Proofs.YtjniafcnjbbomaaGreatDoor.DE
