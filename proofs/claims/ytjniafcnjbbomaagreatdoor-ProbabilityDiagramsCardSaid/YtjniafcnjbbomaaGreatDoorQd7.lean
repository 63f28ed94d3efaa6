/-
  SEVERAL TEXTS IN ONE (joined by tools/asm3.py of this repository): El.
-/
import Derived.Test.YtjniafcnjbbomaaGreatDoorQd6
import Derived.Shelf.Strings.OnBuilder
set_option linter.unusedVariables false
set_option linter.unusedSimpArgs false
namespace Go.Proofs
open Go Go.Shelf
set_option maxRecDepth 100000
def Tryz.renJoin:Go.Shelf.Ren:=⟨fun | 156=>191 | 165=>239 | 166=>240 | 169=>242 | 240=>310 | 241=>311 | 276=>360 | 277=>361 | n=>n,fun | 31=>230 | 9=>9 | 3=>3 | 4=>4 | 0=>0 | 20=>20 | 72=>277 | 76=>281 | 70=>274 | 37=>275 | 75=>280 | 127=>338 | 164=>389 | 5=>5 | 80=>284 | n=>n,fun n=>n⟩
theorem Tryz.laysJoin:Lays.n156 Tryz.prog Tryz.renJoin:={ mixed:=by kernel_rfl,f156:=by kernel_rfl,f165:=by kernel_rfl,f166:=by kernel_rfl,f169:=by kernel_rfl,f240:=by kernel_rfl,f241:=by kernel_rfl,f276:=by kernel_rfl,f277:=by kernel_rfl,t0:=Tryz.underlying0,a0:=Tryz.isAgg0,z0:=Tryz.sizeOf0,v0:=Tryz.zeroValue0,t3:=Tryz.underlying3,a3:=Tryz.isAgg3,z3:=Tryz.sizeOf3,v3:=Tryz.zeroValue3,t4:=Tryz.underlying4,a4:=Tryz.isAgg4,z4:=Tryz.sizeOf4,v4:=Tryz.zeroValue4,t9:=Tryz.underlying9,a9:=Tryz.isAgg9,z9:=Tryz.sizeOf9,v9:=Tryz.zeroValue9,t20:=Tryz.underlying20,a20:=Tryz.isAgg20,z20:=Tryz.sizeOf20,v20:=Tryz.zeroValue20,t31:=Tryz.underlying230,a31:=Tryz.isAgg230,z31:=Tryz.sizeOf230,v31:=Tryz.zeroValue230,t37:=Tryz.underlying275,a37:=Tryz.isAgg275,z37:=Tryz.sizeOf275,v37:=Tryz.zeroValue275,t70:=Tryz.underlying274,a70:=Tryz.isAgg274,z70:=Tryz.sizeOf274,v70:=Tryz.zeroValue274,t72:=Tryz.underlying277,a72:=Tryz.isAgg277,z72:=Tryz.sizeOf277,v72:=Tryz.zeroValue277,t75:=Tryz.underlying280,a75:=Tryz.isAgg280,z75:=Tryz.sizeOf280,v75:=Tryz.zeroValue280,t76:=Tryz.underlying281,a76:=Tryz.isAgg281,z76:=Tryz.sizeOf281,v76:=Tryz.zeroValue281,t127:=Tryz.underlying338,a127:=Tryz.isAgg338,z127:=Tryz.sizeOf338,v127:=Tryz.zeroValue338,t164:=Tryz.underlying389,a164:=Tryz.isAgg389,z164:=Tryz.sizeOf389,v164:=Tryz.zeroValue389 }
theorem Tryz.extraJoin:Builder.Extra Tryz.prog Tryz.renJoin:={ sizeBuilder:=by kernel_rfl,liesBuilder:=by kernel_rfl,t5:=Tryz.underlying5,a5:=Tryz.isAgg5,z5:=Tryz.sizeOf5,v5:=Tryz.zeroValue5,infoByte:=by kernel_rfl,cellsByte:=by kernel_rfl,sizeByte:=by kernel_rfl,neB5:=by decide }
end Go.Proofs
namespace Go.Proofs.YtjniafcnjbbomaaGreatDoor.DE
open Go Go.RowKit
set_option maxRecDepth 100000
section
variable {P:Program} {ops:Array Oper} {Q:Exit→Act→World→Prop} {a:Act} {w w':World} {rest:List Oper} {o:Oper} {v:Value}
theorem wpL_value (hg:o.guard=none) (h:(execOp a.eval o).run P w = .ok (.value v) w') (k:wpList P ops Q rest (a.put o.dst v) w'):wpList P ops Q (o::rest) a w:=by
 unfold wpList
 rw [if_pos (by simp [Region.wanted,hg])]
 exact .inl (by simp only [Oper.wp,h,Oper.upon];exact k)
theorem run_append_op {c:Call} {x y:Operand} {t u:TypeId} {v1 v2:Value} (ho:o.op = .call c) (hcal:c.callee = .builtin .append) (hat:c.argTypes = #[t,u]) (hargs:c.args = #[x,y]) (hx:a.eval x=v1) (hy:a.eval y=v2)
  (h:(Builtin.append_ #[t,u] o.type #[v1,v2]).run P w = .ok v w'):(execOp a.eval o).run P w = .ok (.value v) w':=by
 have hm:c.args.map a.eval = #[v1,v2]:=by rw [hargs];simp [hx,hy]
 simp only [execOp,ho,resolve,hcal,Sem.run_bind,Sem.run_pure,Result.andThen,invoke,builtin,hat,hm,h]
theorem run_app_zeros {t u ty e:TypeId} {i:TypeInfo} {z:Value} {kk:IntKind} {m:Nat} (ht:P.underlying t=some (.slice e)) (hu:P.underlying u=some (.int kk)) (hi:P.info? e=some i) (hz:i.zero=some z) (h0:0<m) (hs:i.size≠0) (hb:i.bytes≤65536) (hm:m≤maxLenD) :
  (Builtin.append_ #[t,u] ty #[.slice none 0 0,.int .i64 m]).run P w =
   .ok (.slice (some ⟨w.heap.size,0,none⟩) m (grownCap w m 0 e)) (w.drew.alloc (.cells (Builtin.zeroCells z.cells m++Builtin.zeroCells z.cells (grownCap w m 0 e-m)) e)):=by
 simp only [maxLenD] at hm
 have hw:IntKind.i64.wrap (m:Int)=m:=by simp [IntKind.wrap,IntKind.signed,IntKind.bits];omega
 have h1:¬((m:Int)<0):=by omega
 have h2:¬(281474976710656<(m:Int) * i.bytes):=by
  have e1:(m:Int)≤1048576:=by omega
  have e2:(m:Int) * i.bytes≤1048576 * 65536:=Int.mul_le_mul e1 (by omega) (by omega) (by omega)
  omega
 have h6:m≠0:=by omega
 have h4:¬((m:Int) > 9223372036854775807):=by omega
 have h5:¬(281474976710656<Builtin.nextslicecap m 0 * i.bytes):=by
  have h1:=nextslicecap_le (need:=m) (old:=0) (by omega)
  have h2:Builtin.nextslicecap m 0 * i.bytes≤2097152 * 65536:=Nat.mul_le_mul (by omega) hb
  omega
 simp [Builtin.append_,run_underlying ht,run_underlying hu,sizeOf,typeInfo,zeroValue,hi,hz,Builtin.lenOf,Builtin.firstCells,hw,h1,h2,h4,h5,h6,Question.forced,newRow,grownCap,asInt,asIntOf]
 exact fun h=>absurd h (Nat.mul_ne_zero h6 hs)
end
theorem primD_grow {f:Fn} {k:Nat} {args:List D} {S S':Store} {r:D} (hnp:f.np=2000+k) (_:2000≤f.np) (he:primD f args S=some (r,S')) :
  ∃ n ow,args=[.sl k true [] ow,.i .i64 n]∧((0<n∧n≤1048576∧r = .sl k false [] (.tok S.length)∧S' = .tok true::S)∨(n=0∧r = .sl k true [] .ro∧S'=S)):=by
 unfold primD at he
 rw [if_neg (by omega),if_pos (by omega)] at he
 split at he
 ·rename_i k' ow n
  split at he
  ·rename_i hk
   have hkk:k'=k:=by omega
   subst hkk
   refine ⟨n,ow,rfl,?_⟩
   split at he
   ·rename_i hn
    injection he with he
    injection he with h1 h2
    exact .inl ⟨hn.1,hn.2,h1.symm,h2.symm⟩
   ·split at he
    ·rename_i hn
     injection he with he
     injection he with h1 h2
     exact .inr ⟨hn,h1.symm,h2.symm⟩
    ·cases he
  ·cases he
 ·cases he
theorem two_args {vs:Array Value} {d1 d2:D} {dp:Nat→Option Fn} {F:Fix} {G:List Gh} {w:World} (h:RelA dp F G w vs [d1,d2]):∃ v1 v2,vs = #[v1,v2]∧Rel dp F G w v1 d1∧Rel dp F G w v2 d2:=by
 obtain ⟨h1,h2⟩:=h
 obtain ⟨l⟩:=vs
 match l,h1 with
 | [a,b],_=>exact ⟨a,b,rfl,h2 0 a d1 (by simp) rfl,h2 1 b d2 (by simp) rfl⟩
theorem rel_grow {vs:Array Value} {k:Nat} {ow:Own} {n:Int} {dp:Nat→Option Fn} {F:Fix} {G:List Gh} {w:World} (h:RelA dp F G w vs [.sl k true [] ow,.i .i64 n]):vs = #[.slice none 0 0,.int .i64 n]:=by
 obtain ⟨v1,v2,rfl,h1,h2⟩:=two_args h
 cases h1
 cases h2
 rfl
theorem grow147_walk (m:Nat) (h0:0<m) (hm:m≤maxLenD) (w:World) (R:Ending→World→Prop)
  (hR:∀ (cs:Array Value) (cap:Nat),m≤cap→cs.size=cap * 2→R (.returned (.slice (some ⟨w.heap.size,0,none⟩) 0 cap)) (w.drew.alloc (.cells cs 94))) :
  Calls Tryz.prog 147 #[.slice none 0 0,.int .i64 m] w R:=by
 have hw:IntKind.i64.wrap ((m:Int)-IntKind.i64.wrap (0-0))=m:=by
  have h0:IntKind.i64.wrap (0-0)=0:=rfl
  simp only [maxLenD] at hm
  rw [h0];simp [IntKind.wrap,IntKind.signed,IntKind.bits];omega
 have hgt:decide ((m:Int) > 0)=true:=by simp;omega
 have hlt:decide ((m:Int)<0)=false:=by simp
 refine calls_of_wp Tryz.func147 rfl ?_
 refine wp_seq (wp_region_list ?_)
 refine wpL_value (v:=.slice none 0 0) (w':=w) rfl (by kernel_rfl) ?_
 refine wp_seq ?_
 refine wp_seq (wp_region_list ?_)
 refine wpL_value (v:=.int .i64 m) (w':=w) rfl (by kernel_rfl) ?_
 refine wpL_value (v:=.bool (decide ((m:Int)<0))) (w':=w) rfl (by kernel_rfl) ?_
 rw [hlt]
 refine wp_cond_false (by kernel_rfl) (_root_.Go.wp_skip ?_)
 refine wp_seq ?_
 refine wp_seq (wp_region_list ?_)
 refine wpL_value (v:=.int .i64 m) (w':=w) rfl (by kernel_rfl) ?_
 refine wpL_value (v:=.slice none 0 0) (w':=w) rfl (by kernel_rfl) ?_
 refine wpL_value (v:=.int .i64 0) (w':=w) rfl (by kernel_rfl) ?_
 refine wpL_value (v:=.slice none 0 0) (w':=w) rfl (by kernel_rfl) ?_
 refine wpL_value (v:=.int .i64 0) (w':=w) rfl (by kernel_rfl) ?_
 refine wpL_value (v:=.int .i64 (IntKind.i64.wrap (0-0))) (w':=w) rfl (by kernel_rfl) ?_
 refine wpL_value (v:=.int .i64 (IntKind.i64.wrap ((m:Int)-IntKind.i64.wrap (0-0)))) (w':=w) rfl (by kernel_rfl) ?_
 rw [hw]
 refine wpL_value (v:=.int .i64 m) (w':=w) rfl (by kernel_rfl) ?_
 refine wp_seq (wp_region_list ?_)
 refine wpL_value (v:=.int .i64 m) (w':=w) rfl (by kernel_rfl) ?_
 refine wpL_value (v:=.bool (decide ((m:Int) > 0))) (w':=w) rfl (by kernel_rfl) ?_
 rw [hgt]
 refine wp_cond_true (by kernel_rfl) (wp_region_list ?_)
 refine wpL_value (v:=.slice none 0 0) (w':=w) rfl (by kernel_rfl) ?_
 refine wpL_value (v:=.slice none 0 0) (w':=w) rfl (by kernel_rfl) ?_
 refine wpL_value (v:=.int .i64 0) (w':=w) rfl (by kernel_rfl) ?_
 refine wpL_value (v:=.slice none 0 0) (w':=w) rfl (by kernel_rfl) ?_
 refine wpL_value (v:=.int .i64 m) (w':=w) rfl (by kernel_rfl) ?_
 have hinf:(match Tryz.prog.info? 94 with | some i=>(match i.zero with | some z=>i.size == 2&&decide (i.bytes≤65536)&&z.cells.size == 2 | none=>false) | none=>false)=true:=by kernel_rfl
 split at hinf
 ·rename_i i hi
  split at hinf
  ·rename_i z hz
   simp only [Bool.and_eq_true,beq_iff_eq,decide_eq_true_eq] at hinf
   obtain ⟨⟨i1,i2⟩,i3⟩:=hinf
   have happ:=run_app_zeros (P:=Tryz.prog) (w:=w) (ty:=49) (m:=m) Tryz.underlying49 Tryz.underlying3 hi hz h0 (by omega) i2 hm
   have hge:=grownCap_ge w m 0 94
   generalize hcs:Builtin.zeroCells z.cells m++Builtin.zeroCells z.cells (grownCap w m 0 94-m)=cs at happ
   have hsz:cs.size=grownCap w m 0 94 * 2:=by
    rw [←hcs]
    simp only [Array.size_append,size_zeroCells,i3]
    rw [←Nat.add_mul]
    congr 1
    omega
   generalize grownCap w m 0 94=cap at *
   refine wpL_value (v:=.slice (some ⟨w.heap.size,0,none⟩) m cap) (w':=w.drew.alloc (.cells cs 94)) rfl ?_ ?_
   ·exact run_append_op rfl rfl rfl rfl (by kernel_rfl) (by kernel_rfl) happ
   ·have hcap:¬cap=0:=by omega
    refine wpL_value (v:=.slice none 0 0) (w':=w.drew.alloc (.cells cs 94)) rfl (by kernel_rfl) ?_
    refine wpL_value (v:=.int .i64 0) (w':=w.drew.alloc (.cells cs 94)) rfl (by kernel_rfl) ?_
    refine wpL_value (v:=.slice (some ⟨w.heap.size,0,none⟩) 0 cap) (w':=w.drew.alloc (.cells cs 94)) rfl ?_ ?_
    ·obtain ⟨c,rfl⟩:∃ c,cap=c+1:=⟨cap-1,by omega⟩
     kernel_rfl
    ·refine wpL_value (v:=.slice (some ⟨w.heap.size,0,none⟩) 0 cap) (w':=w.drew.alloc (.cells cs 94)) rfl (by kernel_rfl) ?_
     refine wp_seq (wp_region_list ?_)
     refine wpL_value (v:=.slice (some ⟨w.heap.size,0,none⟩) 0 cap) (w':=w.drew.alloc (.cells cs 94)) rfl (by kernel_rfl) ?_
     refine wpL_value (v:=.slice (some ⟨w.heap.size,0,none⟩) 0 cap) (w':=w.drew.alloc (.cells cs 94)) rfl (by kernel_rfl) ?_
     refine _root_.Go.wp_ret ⟨rfl,.slice (some ⟨w.heap.size,0,none⟩) 0 cap,by kernel_rfl,?_⟩
     exact hR cs cap hge hsz
  ·cases hinf
 ·cases hinf
theorem grow147_zero (w:World) (R:Ending→World→Prop) (hR:R (.returned (.slice none 0 0)) w):Calls Tryz.prog 147 #[.slice none 0 0,.int .i64 0] w R:=by
 obtain ⟨m,hm0⟩:∃ m:Nat,m=0:=⟨0,rfl⟩
 have hm:m≤maxLenD:=by rw [hm0];exact Nat.zero_le _
 have e0:(0:Int)=(m:Int):=by rw [hm0];rfl
 have ea:(#[.slice none 0 0,.int .i64 0]:Array Value) = #[.slice none 0 0,.int .i64 m]:=by rw [hm0];rfl
 rw [ea]
 clear e0 ea
 have hw:IntKind.i64.wrap ((m:Int)-IntKind.i64.wrap (0-0))=m:=by
  have h0:IntKind.i64.wrap (0-0)=0:=rfl
  simp only [maxLenD] at hm
  rw [h0];simp [IntKind.wrap,IntKind.signed,IntKind.bits];omega
 have hgt:decide ((m:Int) > 0)=false:=by rw [hm0];rfl
 have hlt:decide ((m:Int)<0)=false:=by simp
 refine calls_of_wp Tryz.func147 rfl ?_
 refine wp_seq (wp_region_list ?_)
 refine wpL_value (v:=.slice none 0 0) (w':=w) rfl (by kernel_rfl) ?_
 refine wp_seq ?_
 refine wp_seq (wp_region_list ?_)
 refine wpL_value (v:=.int .i64 m) (w':=w) rfl (by kernel_rfl) ?_
 refine wpL_value (v:=.bool (decide ((m:Int)<0))) (w':=w) rfl (by kernel_rfl) ?_
 rw [hlt]
 refine wp_cond_false (by kernel_rfl) (_root_.Go.wp_skip ?_)
 refine wp_seq ?_
 refine wp_seq (wp_region_list ?_)
 refine wpL_value (v:=.int .i64 m) (w':=w) rfl (by kernel_rfl) ?_
 refine wpL_value (v:=.slice none 0 0) (w':=w) rfl (by kernel_rfl) ?_
 refine wpL_value (v:=.int .i64 0) (w':=w) rfl (by kernel_rfl) ?_
 refine wpL_value (v:=.slice none 0 0) (w':=w) rfl (by kernel_rfl) ?_
 refine wpL_value (v:=.int .i64 0) (w':=w) rfl (by kernel_rfl) ?_
 refine wpL_value (v:=.int .i64 (IntKind.i64.wrap (0-0))) (w':=w) rfl (by kernel_rfl) ?_
 refine wpL_value (v:=.int .i64 (IntKind.i64.wrap ((m:Int)-IntKind.i64.wrap (0-0)))) (w':=w) rfl (by kernel_rfl) ?_
 rw [hw]
 refine wpL_value (v:=.int .i64 m) (w':=w) rfl (by kernel_rfl) ?_
 refine wp_seq (wp_region_list ?_)
 refine wpL_value (v:=.int .i64 m) (w':=w) rfl (by kernel_rfl) ?_
 refine wpL_value (v:=.bool (decide ((m:Int) > 0))) (w':=w) rfl (by kernel_rfl) ?_
 rw [hgt]
 refine wp_cond_false (by kernel_rfl) (_root_.Go.wp_skip ?_)
 refine wp_seq (wp_region_list ?_)
 refine wpL_value (v:=.slice none 0 0) (w':=w) rfl (by kernel_rfl) ?_
 refine wpL_value (v:=.slice none 0 0) (w':=w) rfl (by kernel_rfl) ?_
 exact _root_.Go.wp_ret ⟨rfl,.slice none 0 0,by kernel_rfl,hR⟩
theorem grow147_ok {dp:Nat→Option Fn} {args:List D} {S S':Store} {r:D} {f:Fn} (hnp:f.np=2002) (he:primD f args S=some (r,S')) (F:Fix) (G:List Gh) (w:World) (vs:Array Value) (hs:Sim dp F G w S) (hv:RelA dp F G w vs args)
  (R:Ending→World→Prop) (hR:∀ v w' F' G',Sim dp F' G' w' S'→Ext F G w S F' G' w' S'→Rel dp F' G' w' v r→R (.returned v) w'):Calls Tryz.prog 147 vs w R:=by
 obtain ⟨n,ow,rfl,hcase⟩:=primD_grow (k:=2) hnp (by omega) he
 obtain ⟨rfl⟩:=rel_grow hv
 rcases hcase with ⟨h0,h1,rfl,rfl⟩ | ⟨rfl,rfl,rfl⟩
 ·obtain ⟨m,rfl⟩:∃ m:Nat,n=m:=⟨n.toNat,by omega⟩
  refine grow147_walk m (by omega) (by simp only [maxLenD];omega) w R fun cs cap hge hsz=>?_
  obtain ⟨h2,h3⟩:=hs.pushRow (cap:=cap) (k:=2) (xs:=[]) (grown_drew w (.cells cs 94)) ⟨by simp,fun j x m d h=>by simp at h⟩ hsz (Nat.zero_le _) (S0:=S) rfl (fun _ _ h=>.inl h)
  exact hR _ _ _ _ h2.1 h2.2 h3
 ·exact grow147_zero w R (hR _ w F G hs (Ext.refl _ _ _ _) (.nil _ _))
theorem grow186_walk (m:Nat) (h0:0<m) (hm:m≤maxLenD) (w:World) (R:Ending→World→Prop)
  (hR:∀ (cs:Array Value) (cap:Nat),m≤cap→cs.size=cap * 11→R (.returned (.slice (some ⟨w.heap.size,0,none⟩) 0 cap)) (w.drew.alloc (.cells cs 141))) :
  Calls Tryz.prog 186 #[.slice none 0 0,.int .i64 m] w R:=by
 have hw:IntKind.i64.wrap ((m:Int)-IntKind.i64.wrap (0-0))=m:=by
  have h0:IntKind.i64.wrap (0-0)=0:=rfl
  simp only [maxLenD] at hm
  rw [h0];simp [IntKind.wrap,IntKind.signed,IntKind.bits];omega
 have hgt:decide ((m:Int) > 0)=true:=by simp;omega
 have hlt:decide ((m:Int)<0)=false:=by simp
 refine calls_of_wp Tryz.func186 rfl ?_
 refine wp_seq (wp_region_list ?_)
 refine wpL_value (v:=.slice none 0 0) (w':=w) rfl (by kernel_rfl) ?_
 refine wp_seq ?_
 refine wp_seq (wp_region_list ?_)
 refine wpL_value (v:=.int .i64 m) (w':=w) rfl (by kernel_rfl) ?_
 refine wpL_value (v:=.bool (decide ((m:Int)<0))) (w':=w) rfl (by kernel_rfl) ?_
 rw [hlt]
 refine wp_cond_false (by kernel_rfl) (_root_.Go.wp_skip ?_)
 refine wp_seq ?_
 refine wp_seq (wp_region_list ?_)
 refine wpL_value (v:=.int .i64 m) (w':=w) rfl (by kernel_rfl) ?_
 refine wpL_value (v:=.slice none 0 0) (w':=w) rfl (by kernel_rfl) ?_
 refine wpL_value (v:=.int .i64 0) (w':=w) rfl (by kernel_rfl) ?_
 refine wpL_value (v:=.slice none 0 0) (w':=w) rfl (by kernel_rfl) ?_
 refine wpL_value (v:=.int .i64 0) (w':=w) rfl (by kernel_rfl) ?_
 refine wpL_value (v:=.int .i64 (IntKind.i64.wrap (0-0))) (w':=w) rfl (by kernel_rfl) ?_
 refine wpL_value (v:=.int .i64 (IntKind.i64.wrap ((m:Int)-IntKind.i64.wrap (0-0)))) (w':=w) rfl (by kernel_rfl) ?_
 rw [hw]
 refine wpL_value (v:=.int .i64 m) (w':=w) rfl (by kernel_rfl) ?_
 refine wp_seq (wp_region_list ?_)
 refine wpL_value (v:=.int .i64 m) (w':=w) rfl (by kernel_rfl) ?_
 refine wpL_value (v:=.bool (decide ((m:Int) > 0))) (w':=w) rfl (by kernel_rfl) ?_
 rw [hgt]
 refine wp_cond_true (by kernel_rfl) (wp_region_list ?_)
 refine wpL_value (v:=.slice none 0 0) (w':=w) rfl (by kernel_rfl) ?_
 refine wpL_value (v:=.slice none 0 0) (w':=w) rfl (by kernel_rfl) ?_
 refine wpL_value (v:=.int .i64 0) (w':=w) rfl (by kernel_rfl) ?_
 refine wpL_value (v:=.slice none 0 0) (w':=w) rfl (by kernel_rfl) ?_
 refine wpL_value (v:=.int .i64 m) (w':=w) rfl (by kernel_rfl) ?_
 have hinf:(match Tryz.prog.info? 141 with | some i=>(match i.zero with | some z=>i.size == 11&&decide (i.bytes≤65536)&&z.cells.size == 11 | none=>false) | none=>false)=true:=by kernel_rfl
 split at hinf
 ·rename_i i hi
  split at hinf
  ·rename_i z hz
   simp only [Bool.and_eq_true,beq_iff_eq,decide_eq_true_eq] at hinf
   obtain ⟨⟨i1,i2⟩,i3⟩:=hinf
   have happ:=run_app_zeros (P:=Tryz.prog) (w:=w) (ty:=92) (m:=m) Tryz.underlying92 Tryz.underlying3 hi hz h0 (by omega) i2 hm
   have hge:=grownCap_ge w m 0 141
   generalize hcs:Builtin.zeroCells z.cells m++Builtin.zeroCells z.cells (grownCap w m 0 141-m)=cs at happ
   have hsz:cs.size=grownCap w m 0 141 * 11:=by
    rw [←hcs]
    simp only [Array.size_append,size_zeroCells,i3]
    rw [←Nat.add_mul]
    congr 1
    omega
   generalize grownCap w m 0 141=cap at *
   refine wpL_value (v:=.slice (some ⟨w.heap.size,0,none⟩) m cap) (w':=w.drew.alloc (.cells cs 141)) rfl ?_ ?_
   ·exact run_append_op rfl rfl rfl rfl (by kernel_rfl) (by kernel_rfl) happ
   ·have hcap:¬cap=0:=by omega
    refine wpL_value (v:=.slice none 0 0) (w':=w.drew.alloc (.cells cs 141)) rfl (by kernel_rfl) ?_
    refine wpL_value (v:=.int .i64 0) (w':=w.drew.alloc (.cells cs 141)) rfl (by kernel_rfl) ?_
    refine wpL_value (v:=.slice (some ⟨w.heap.size,0,none⟩) 0 cap) (w':=w.drew.alloc (.cells cs 141)) rfl ?_ ?_
    ·obtain ⟨c,rfl⟩:∃ c,cap=c+1:=⟨cap-1,by omega⟩
     kernel_rfl
    ·refine wpL_value (v:=.slice (some ⟨w.heap.size,0,none⟩) 0 cap) (w':=w.drew.alloc (.cells cs 141)) rfl (by kernel_rfl) ?_
     refine wp_seq (wp_region_list ?_)
     refine wpL_value (v:=.slice (some ⟨w.heap.size,0,none⟩) 0 cap) (w':=w.drew.alloc (.cells cs 141)) rfl (by kernel_rfl) ?_
     refine wpL_value (v:=.slice (some ⟨w.heap.size,0,none⟩) 0 cap) (w':=w.drew.alloc (.cells cs 141)) rfl (by kernel_rfl) ?_
     refine _root_.Go.wp_ret ⟨rfl,.slice (some ⟨w.heap.size,0,none⟩) 0 cap,by kernel_rfl,?_⟩
     exact hR cs cap hge hsz
  ·cases hinf
 ·cases hinf
theorem grow186_zero (w:World) (R:Ending→World→Prop) (hR:R (.returned (.slice none 0 0)) w):Calls Tryz.prog 186 #[.slice none 0 0,.int .i64 0] w R:=by
 obtain ⟨m,hm0⟩:∃ m:Nat,m=0:=⟨0,rfl⟩
 have hm:m≤maxLenD:=by rw [hm0];exact Nat.zero_le _
 have e0:(0:Int)=(m:Int):=by rw [hm0];rfl
 have ea:(#[.slice none 0 0,.int .i64 0]:Array Value) = #[.slice none 0 0,.int .i64 m]:=by rw [hm0];rfl
 rw [ea]
 clear e0 ea
 have hw:IntKind.i64.wrap ((m:Int)-IntKind.i64.wrap (0-0))=m:=by
  have h0:IntKind.i64.wrap (0-0)=0:=rfl
  simp only [maxLenD] at hm
  rw [h0];simp [IntKind.wrap,IntKind.signed,IntKind.bits];omega
 have hgt:decide ((m:Int) > 0)=false:=by rw [hm0];rfl
 have hlt:decide ((m:Int)<0)=false:=by simp
 refine calls_of_wp Tryz.func186 rfl ?_
 refine wp_seq (wp_region_list ?_)
 refine wpL_value (v:=.slice none 0 0) (w':=w) rfl (by kernel_rfl) ?_
 refine wp_seq ?_
 refine wp_seq (wp_region_list ?_)
 refine wpL_value (v:=.int .i64 m) (w':=w) rfl (by kernel_rfl) ?_
 refine wpL_value (v:=.bool (decide ((m:Int)<0))) (w':=w) rfl (by kernel_rfl) ?_
 rw [hlt]
 refine wp_cond_false (by kernel_rfl) (_root_.Go.wp_skip ?_)
 refine wp_seq ?_
 refine wp_seq (wp_region_list ?_)
 refine wpL_value (v:=.int .i64 m) (w':=w) rfl (by kernel_rfl) ?_
 refine wpL_value (v:=.slice none 0 0) (w':=w) rfl (by kernel_rfl) ?_
 refine wpL_value (v:=.int .i64 0) (w':=w) rfl (by kernel_rfl) ?_
 refine wpL_value (v:=.slice none 0 0) (w':=w) rfl (by kernel_rfl) ?_
 refine wpL_value (v:=.int .i64 0) (w':=w) rfl (by kernel_rfl) ?_
 refine wpL_value (v:=.int .i64 (IntKind.i64.wrap (0-0))) (w':=w) rfl (by kernel_rfl) ?_
 refine wpL_value (v:=.int .i64 (IntKind.i64.wrap ((m:Int)-IntKind.i64.wrap (0-0)))) (w':=w) rfl (by kernel_rfl) ?_
 rw [hw]
 refine wpL_value (v:=.int .i64 m) (w':=w) rfl (by kernel_rfl) ?_
 refine wp_seq (wp_region_list ?_)
 refine wpL_value (v:=.int .i64 m) (w':=w) rfl (by kernel_rfl) ?_
 refine wpL_value (v:=.bool (decide ((m:Int) > 0))) (w':=w) rfl (by kernel_rfl) ?_
 rw [hgt]
 refine wp_cond_false (by kernel_rfl) (_root_.Go.wp_skip ?_)
 refine wp_seq (wp_region_list ?_)
 refine wpL_value (v:=.slice none 0 0) (w':=w) rfl (by kernel_rfl) ?_
 refine wpL_value (v:=.slice none 0 0) (w':=w) rfl (by kernel_rfl) ?_
 exact _root_.Go.wp_ret ⟨rfl,.slice none 0 0,by kernel_rfl,hR⟩
theorem grow186_ok {dp:Nat→Option Fn} {args:List D} {S S':Store} {r:D} {f:Fn} (hnp:f.np=2011) (he:primD f args S=some (r,S')) (F:Fix) (G:List Gh) (w:World) (vs:Array Value) (hs:Sim dp F G w S) (hv:RelA dp F G w vs args)
  (R:Ending→World→Prop) (hR:∀ v w' F' G',Sim dp F' G' w' S'→Ext F G w S F' G' w' S'→Rel dp F' G' w' v r→R (.returned v) w'):Calls Tryz.prog 186 vs w R:=by
 obtain ⟨n,ow,rfl,hcase⟩:=primD_grow (k:=11) hnp (by omega) he
 obtain ⟨rfl⟩:=rel_grow hv
 rcases hcase with ⟨h0,h1,rfl,rfl⟩ | ⟨rfl,rfl,rfl⟩
 ·obtain ⟨m,rfl⟩:∃ m:Nat,n=m:=⟨n.toNat,by omega⟩
  refine grow186_walk m (by omega) (by simp only [maxLenD];omega) w R fun cs cap hge hsz=>?_
  obtain ⟨h2,h3⟩:=hs.pushRow (cap:=cap) (k:=11) (xs:=[]) (grown_drew w (.cells cs 141)) ⟨by simp,fun j x m d h=>by simp at h⟩ hsz (Nat.zero_le _) (S0:=S) rfl (fun _ _ h=>.inl h)
  exact hR _ _ _ _ h2.1 h2.2 h3
 ·exact grow186_zero w R (hR _ w F G hs (Ext.refl _ _ _ _) (.nil _ _))
theorem textsD_get:∀ {xs:List (List D)} {l:List (List UInt8)},textsD xs=some l→xs=l.map fun a=>[D.s a]
 | [],l,h=>by simp [textsD] at h;subst h;rfl
 | []::_,_,h=>by simp [textsD] at h
 | [d]::xs,l,h=>by
  cases d <;> simp only [textsD] at h <;> try (cases h;done)
  rename_i a
  cases ht:textsD xs with
  | none=>simp [ht] at h
  | some m=>
   simp only [ht,Option.map_some,Option.some.injEq] at h
   subst h
   rw [textsD_get ht];rfl
 | (_::_::_)::_,_,h=>by simp [textsD] at h
theorem join_ok {dp:Nat→Option Fn} {args:List D} {S S':Store} {r:D} {f:Fn} (hnp:f.np=1001) (he:primD f args S=some (r,S')) (F:Fix) (G:List Gh) (w:World) (vs:Array Value) (hs:Sim dp F G w S) (hv:RelA dp F G w vs args)
  (R:Ending→World→Prop) (hR:∀ v w' F' G',Sim dp F' G' w' S'→Ext F G w S F' G' w' S'→Rel dp F' G' w' v r→R (.returned v) w'):Calls Tryz.prog 191 vs w R:=by
 unfold primD at he
 rw [if_pos hnp] at he
 split at he
 ·rename_i nl xs ow sep
  split at he
  ·rename_i l hl
   split at he
   ·rename_i hlen
    injection he with he
    injection he with h1 h2
    subst h1 h2
    have hx:=textsD_get hl
    subst hx
    obtain ⟨v1,v2,rfl,r1,r2⟩:=two_args hv
    cases r2
    have fin:∀ e w',e=Ending.returned (.string ⟨(sep.intercalate l).toArray⟩)→Below w.heap.size w w'→R e w':=by
     rintro e w' rfl hb
     have h:=hs.step (w':=w') (fun b=>w.heap.size≤b) hs.len (fun _ _ h=>h) (fun _ _ h=>h) (fun b o hF=>by
       have hlt:=hs.fix_lt hF
       exact World.cell?_of_block (a:=⟨b,o,none⟩) (hb.block b hlt)) (fun _ _ h=>.inl h) (fun b hb' _=>hb.block b hb') (fun b hb'=>.inr hb')
      (fun id e g h1 h2=>by
       by_cases hh:holds e
       ·have:=hs.lt h1 h2 hh
        exact .inr (.inl ⟨h1,h2,by omega⟩)
       ·exact .inl hh) hb.size hb.os hb.tape hb.output
     exact hR _ w' F G h.1 h.2 (.s _)
    have none_:∀ (ad:Option Addr) (c:Nat),l=[]→Calls Tryz.prog 191 #[.slice ad 0 c,.string ⟨sep.toArray⟩] w R:=by
     rintro ad c rfl
     refine (Any.strings_Join_none Tryz.laysJoin Tryz.extraJoin ad c ⟨sep.toArray⟩ w).mono fun e w' h=>?_
     exact fin e w' h.1 (h.2 ▸ Below.refl _ _)
    by_cases h0:l=[]
    ·subst h0
     cases r1 with
     | nil=>exact none_ none 0 rfl
     | emp _ ad cap=>exact none_ (some ad) cap rfl
     | sl _ _ _ blk off cap c hkl hcap h1 h2 ho=>exact none_ (some ⟨blk,off,none⟩) cap rfl
    ·generalize hxs:List.map (fun a=>[D.s a]) l=xs at r1
     have hne:xs≠[]:=by rw [←hxs];simpa using h0
     cases r1 with
     | nil=>exact absurd rfl hne
     | emp _ ad cap=>exact absurd rfl hne
     | sl _ _ _ blk off cap c hkl hcap h1 h2 ho=>
      have hxl:xs.length=l.length:=by rw [←hxs];simp
      have hcell:∀ (j:Nat) (x:ByteArray),(l.map fun a=>(⟨a.toArray⟩:ByteArray))[j]? = some x→w.cell? ⟨blk,off+j,none⟩=some (.string x):=by
       intro j x hj
       rw [List.getElem?_map] at hj
       cases hlj:l[j]? with
       | none=>simp [hlj] at hj
       | some a=>
        simp only [hlj,Option.map_some,Option.some.injEq] at hj
        subst hj
        have hxj:xs[j]? = some [D.s a]:=by rw [←hxs,List.getElem?_map,hlj];rfl
        have e1:=(h1 j _ 0 _ hxj rfl).2.1
        have e2:=h2 j _ 0 _ hxj rfl
        generalize c j 0=v at e1 e2
        cases e2
        simpa using e1
      have hbk:blk<w.heap.size:=by
       obtain ⟨a,l',rfl⟩:∃ a l',l=a::l':=by
        cases l with
        | nil=>exact absurd rfl h0
        | cons a l'=>exact ⟨a,l',rfl⟩
       have:=hcell 0 ⟨a.toArray⟩ rfl
       exact World.block_lt_of_cell? w _ this
      have hmap:(l.map fun a=>(⟨a.toArray⟩:ByteArray)).map (·.data.toList)=l:=by
       rw [List.map_map]
       have:((fun (x:ByteArray)=>x.data.toList) ∘ fun a:List UInt8=>(⟨a.toArray⟩:ByteArray))=id:=by funext a;simp
       rw [this,List.map_id]
      have hbig:xs.length≤140737488355328:=by rw [hxl];omega
      have hc:=Any.strings_Join Tryz.laysJoin Tryz.extraJoin blk off cap (l.map fun a=>(⟨a.toArray⟩:ByteArray)) ⟨sep.toArray⟩ w hcell hbk (by simpa [hxl] using hbig) (by simpa [hxl] using hcap) (by rw [hmap];simp only [Lib.join];omega)
      rw [hmap] at hc
      simp only [List.length_map] at hc
      rw [hxl]
      exact hc.mono fun e w' h=>fin e w' h.1 h.2
   ·cases he
  ·cases he
 ·cases he
theorem prims:dpL.all (fun q=>decide (q.2.np<1000) || (q.2.np == 1001&&q.2.real == 191) || (q.2.np == 2002&&q.2.real == 147) || (q.2.np == 2011&&q.2.real == 186))=true:=by kernel_rfl
theorem prim_ok:PrimOk Tryz.prog dp:=by
 intro g f args S r S' hg he
 obtain ⟨p,hp,rfl⟩:=lookup_mem hg
 have h:=List.all_eq_true.1 prims p hp
 simp only [Bool.or_eq_true,Bool.and_eq_true,beq_iff_eq,decide_eq_true_eq] at h
 rcases h with ((h | h) | h) | h
 ·unfold primD at he
  rw [if_neg (by omega),if_neg (by omega)] at he
  cases he
 ·rw [h.2];exact join_ok h.1 he
 ·rw [h.2];exact grow147_ok h.1 he
 ·rw [h.2];exact grow186_ok h.1 he
theorem sound:CallOk Tryz.prog dp (call dp):=call_sound mixed good prim_ok
end Go.Proofs.YtjniafcnjbbomaaGreatDoor.DE
