/- Joined texts. -/
import Derived.Test.YtjniafcnjbbomaaGreatDoorQx4
import Derived.Test.YtjniafcnjbbomaaGreatDoorQx5
import Derived.Shelf.Strings.OnBuilder
import Derived.Shelf.Strconv.Itoa4
import Derived.Shelf.Strings.Replace
set_option linter.all false
open Bool (and_eq_true)
open Option (map_some)
open Nat (zero_le)
namespace Go.Proofs
open Go Go.Shelf
set_option maxRecDepth 100000
theorem lp{o:Option Func}{F:String->Func}{s:String}(h:(o.map fun g=>(g.name==s))=some false)(k:o=some (F ((o.map fun g=>g.name).getD ""))):∃nm,(nm==s)=false/\o=some (F nm):=by
 refine⟨_,?_,k⟩;cases o with
 |none=>cases h
 |some g=>exact Option.some.inj h
def Tryz.renJoin:Go.Shelf.Ren:=⟨fun|156=>191|165=>239|166=>240|169=>242|240=>310|241=>311|276=>360|277=>361|n=>n,fun|31=>230|9=>9|3=>3|4=>4|0=>0|20=>20|72=>277|76=>281|70=>274|37=>275|75=>280|127=>338|164=>389|5=>5|80=>284|n=>n,fun n=>n⟩
theorem Tryz.laysJoin:Lays.n156 Tryz.prog Tryz.renJoin:=by constructor<;>first|kernel_rfl|(intros;kernel_rfl)|exact lp (by kernel_rfl) (by kernel_rfl)|decide|(constructor<;>first|kernel_rfl|(intros;kernel_rfl)|decide)
theorem Tryz.extraJoin:Builder.Extra Tryz.prog Tryz.renJoin:={ sizeBuilder:=by kernel_rfl,liesBuilder:=by kernel_rfl,t5:=Tryz.underlying5,a5:=Tryz.isAgg5,z5:=Tryz.sizeOf5,v5:=Tryz.zeroValue5,infoByte:=by kernel_rfl,cellsByte:=by kernel_rfl,sizeByte:=by kernel_rfl,neB5:=by decide }
def Tryz.sortTm_ren:Go.Shelf.Ren:=⟨fun|14=>192|20=>260|21=>261|22=>262|23=>263|24=>264|25=>265|26=>266|27=>267|46=>317|47=>318|48=>319|49=>320|50=>321|15=>193|57=>364|28=>268|29=>269|n=>n,fun|24=>94|22=>48|3=>3|25=>146|4=>4|0=>0|46=>298|45=>297|50=>153|66=>342|39=>166|55=>68|70=>346|76=>393|77=>356|53=>135|5=>5|9=>9|n=>n,fun n=>n⟩
theorem Tryz.sortTm:SlLaysF0.n14 Tryz.prog Tryz.sortTm_ren:=by constructor<;>first|kernel_rfl|(intros;kernel_rfl)|exact lp (by kernel_rfl) (by kernel_rfl)|decide|(constructor<;>first|kernel_rfl|(intros;kernel_rfl)|decide)
def Tryz.sortRow_ren:Go.Shelf.Ren:=⟨fun|14=>273|20=>328|21=>329|22=>330|23=>331|24=>332|25=>333|26=>334|27=>335|46=>366|47=>318|48=>319|49=>367|50=>368|15=>193|57=>386|28=>268|29=>269|n=>n,fun|24=>40|22=>22|3=>3|25=>212|4=>4|0=>0|46=>298|45=>297|50=>153|66=>342|39=>166|55=>68|70=>346|76=>393|77=>356|53=>135|5=>5|9=>9|n=>n,fun n=>n⟩
theorem Tryz.sortRow:SlLaysF0.n14 Tryz.prog Tryz.sortRow_ren:=by constructor<;>first|kernel_rfl|(intros;kernel_rfl)|exact lp (by kernel_rfl) (by kernel_rfl)|decide|(constructor<;>first|kernel_rfl|(intros;kernel_rfl)|decide)
def Tryz.laysItoa_ren:Go.Shelf.Ren:=⟨fun|171=>190|243=>259|246=>316|283=>303|284=>304|285=>305|286=>306|129=>269|317=>356|318=>357|319=>358|320=>359|337=>381|338=>382|n=>n,fun|3=>3|9=>9|2=>2|4=>4|171=>331|0=>0|53=>68|37=>275|5=>5|173=>333|212=>387|51=>135|20=>20|213=>388|46=>166|232=>418|233=>419|n=>n,fun|17=>1|18=>3|19=>4|n=>n⟩
theorem Tryz.laysItoa:LaysM.n171 Tryz.prog Tryz.laysItoa_ren:=by constructor<;>first|kernel_rfl|(intros;kernel_rfl)|exact lp (by kernel_rfl) (by kernel_rfl)|decide|(constructor<;>first|kernel_rfl|(intros;kernel_rfl)|decide)
def Tryz.laysFmt_ren:Go.Shelf.Ren:=⟨fun|173=>314|246=>316|283=>303|284=>304|285=>305|286=>306|129=>269|317=>356|318=>357|319=>358|320=>359|337=>381|338=>382|n=>n,fun|2=>2|3=>3|9=>9|4=>4|171=>331|0=>0|53=>68|37=>275|5=>5|173=>333|212=>387|51=>135|20=>20|213=>388|46=>166|232=>418|233=>419|n=>n,fun|17=>1|18=>3|19=>4|n=>n⟩
theorem Tryz.laysFmt:LaysM.n173 Tryz.prog Tryz.laysFmt_ren:=by constructor<;>first|kernel_rfl|(intros;kernel_rfl)|exact lp (by kernel_rfl) (by kernel_rfl)|decide|(constructor<;>first|kernel_rfl|(intros;kernel_rfl)|decide)
def Tryz.laysRepl_ren:Go.Shelf.Ren:=⟨fun|155=>315|154=>363|138=>383|165=>239|143=>384|166=>240|197=>385|169=>242|195=>390|218=>391|240=>310|241=>311|219=>392|260=>393|276=>360|277=>361|217=>400|225=>401|224=>402|267=>403|266=>406|314=>407|n=>n,fun|9=>9|3=>3|4=>4|72=>277|0=>0|76=>281|105=>408|21=>21|5=>5|70=>274|20=>20|37=>275|75=>280|127=>338|164=>389|46=>166|119=>424|139=>427|138=>426|146=>176|51=>135|80=>284|n=>n,fun|1=>2|3=>5|4=>6|n=>n⟩
theorem Tryz.laysRepl:Lays.n155 Tryz.prog Tryz.laysRepl_ren:=by constructor<;>first|kernel_rfl|(intros;kernel_rfl)|exact lp (by kernel_rfl) (by kernel_rfl)|decide|(constructor<;>first|kernel_rfl|(intros;kernel_rfl)|decide)
theorem Tryz.extraRepl:Builder.Extra Tryz.prog Tryz.laysRepl_ren:={ sizeBuilder:=by kernel_rfl,liesBuilder:=by kernel_rfl,t5:=Tryz.underlying5,a5:=Tryz.isAgg5,z5:=Tryz.sizeOf5,v5:=Tryz.zeroValue5,infoByte:=by kernel_rfl,cellsByte:=by kernel_rfl,sizeByte:=by kernel_rfl,neB5:=by decide }
end Go.Proofs
namespace Go.Proofs.YtjniafcnjbbomaaGreatDoor.DE
open Go Go.RowKit
set_option maxRecDepth 100000
instance drwL:Ga:=Ga.any
section
variable {P:Program}{ops:Array Oper}{Q:Exit->Act->World->Prop}{a:Act}{w w':World}{rest:List Oper}{o:Oper}{v:Value}
theorem AF(hg:o.guard=none)(h:(execOp a.eval o).run P w=.ok (.value v) w')(k:wpList P ops Q rest (a.put o.dst v) w'):wpList P ops Q (o::rest) a w:=by unfold wpList;rw[if_pos (by simp[Region.wanted,hg])];exact .inl (by simp only[Oper.wp,h,Oper.upon];exact k)
theorem NK{c:Call}{x y:Operand}{t u:TypeId}{v1 v2:Value}(ho:o.op=.call c)(MN:c.callee=.builtin .append)(YM:c.argTypes = #[t,u])(BE:c.args = #[x,y])(hx:a.eval x=v1)(hy:a.eval y=v2)
  (h:(Builtin.append_ #[t,u] o.type #[v1,v2]).run P w=.ok v w'):(execOp a.eval o).run P w=.ok (.value v) w':=by
 have hm:c.args.map a.eval = #[v1,v2]:=by rw[BE];simp[hx,hy]
 simp only[execOp,ho,resolve,MN,Sem.run_bind,Sem.run_pure,Result.andThen,invoke,builtin,YM,hm,h]
theorem NI{t u ty e:TypeId}{i:TypeInfo}{z:Value}{kk:IntKind}{m:Nat}(ht:P.underlying t=some (.slice e))(hu:P.underlying u=some (.int kk))(hi:P.info? e=some i)(hz:i.zero=some z)(h0:0<m)(hs:i.size≠0)(hb:i.bytes<=65536)(hm:m<=AP) :
  (Builtin.append_ #[t,u] ty #[.slice none 0 0,.int .i64 m]).run P w =
   .ok (.slice (some ⟨w.heap.size,0,none⟩) m (grownCap w m 0 e)) (w.drew.alloc (.cells (Builtin.zeroCells z.cells m++Builtin.zeroCells z.cells (grownCap w m 0 e-m)) e)):=by
 simp only[AP] at hm;have hw:IntKind.i64.wrap (m:Int)=m:=by simp[IntKind.wrap,IntKind.signed,IntKind.bits];omega
 have h1:¬((m:Int)<0):=by omega
 have h2:¬(281474976710656<(m:Int)*i.bytes):=by
  have e1:(m:Int)<=1048576:=by omega
  have e2:(m:Int)*i.bytes<=1048576*65536:=Int.mul_le_mul e1 (by omega) (by omega) (by omega);omega
 have h6:m≠0:=by omega
 have h4:¬((m:Int)>9223372036854775807):=by omega
 have h5:¬(281474976710656<Builtin.nextslicecap m 0*i.bytes):=by have h1:=nextslicecap_le (need:=m) (old:=0) (by omega);have h2:Builtin.nextslicecap m 0*i.bytes<=2097152*65536:=Nat.mul_le_mul (by omega) hb;omega
 simp[Builtin.append_,run_underlying ht,run_underlying hu,sizeOf,typeInfo,zeroValue,hi,hz,Builtin.lenOf,Builtin.firstCells,hw,h1,h2,h4,h5,h6,Question.forced,newRow,grownCap,asInt,asIntOf];exact fun h=>absurd h (Nat.mul_ne_zero h6 hs)
end
theorem TP{c:AQ}{f:Fn}{k:Nat}{args:List D}{S S':A1}{r:D}(fY:f.np=2000+k)(hk:k<1000)(he:Bb c f args S=some (r,S')) :
  ∃n ow,args=[.sl k true [] ow,.i .i64 n]/\((0<n/\n<=1048576/\r=.sl k false [] (.tok S.length)/\S'=.tok true::S)\/(n=0/\r=.sl k true [] .ro/\S'=S)):=by
 unfold Bb at he;rw[if_neg (by omega),if_neg (by omega),if_neg (by omega),if_neg (by omega),if_neg (by omega),if_pos (by omega)] at he;split at he
 .rename_i k' ow n;split at he
  .rename_i hk;have hkk:k'=k:=by omega
   subst hkk;refine⟨n,ow,rfl,?_⟩;split at he
   .rename_i hn;injection he with he
    injection he with h1 h2
    exact .inl ⟨hn.1,hn.2,h1.symm,h2.symm⟩
   .split at he
    .rename_i hn;injection he with he
     injection he with h1 h2
     exact .inr ⟨hn,h1.symm,h2.symm⟩
    .cases he
  .cases he
 .cases he
theorem SS{vs:Array Value}{d1 d2:D}{dp:Nat->Option Fn}{F:GD}{G:List Gh}{w:World}(h:LI dp F G w vs [d1,d2]):∃v1 v2,vs = #[v1,v2]/\Rel dp F G w v1 d1/\Rel dp F G w v2 d2:=by
 obtain⟨h1,h2⟩:=h;obtain⟨l⟩:=vs
 match l,h1 with
 |[a,b],_=>exact⟨a,b,rfl,h2 0 a d1 (by simp) rfl,h2 1 b d2 (by simp) rfl⟩
theorem aP{vs:Array Value}{k:Nat}{ow:JB}{n:Int}{dp:Nat->Option Fn}{F:GD}{G:List Gh}{w:World}(h:LI dp F G w vs [.sl k true [] ow,.i .i64 n]):vs = #[.slice none 0 0,.int .i64 n]:=by obtain⟨v1,v2,rfl,h1,h2⟩:=SS h;cases h1;cases h2;rfl
theorem W1(m:Nat)(h0:0<m)(hm:m<=AP)(w:World)(R:Ending->World->Prop)
  (hR:∀(cs:Array Value) (cap:Nat),m<=cap->cs.size=cap*2->R (.returned (.slice (some ⟨w.heap.size,0,none⟩) 0 cap)) (w.drew.alloc (.cells cs 94))) :
  Calls Tryz.prog 147 #[.slice none 0 0,.int .i64 m] w R:=by
 have hw:IntKind.i64.wrap ((m:Int)-IntKind.i64.wrap (0-0))=m:=by have h0:IntKind.i64.wrap (0-0)=0:=rfl;simp only[AP] at hm;rw[h0];simp[IntKind.wrap,IntKind.signed,IntKind.bits];omega
 have fb:decide ((m:Int)>0)=true:=by simp;omega
 have Ap:decide ((m:Int)<0)=false:=by simp
 refine calls_of_wp Tryz.func147 rfl ?_;refine wp_seq (wp_region_list ?_);refine AF (v:=.slice none 0 0) (w':=w) rfl (by kernel_rfl) ?_;refine wp_seq ?_;refine wp_seq (wp_region_list ?_);refine AF (v:=.int .i64 m) (w':=w) rfl (by kernel_rfl) ?_;refine AF (v:=.bool (decide ((m:Int)<0))) (w':=w) rfl (by kernel_rfl) ?_;rw[Ap];refine wp_cond_false (by kernel_rfl) (_root_.Go.wp_skip ?_);refine wp_seq ?_;refine wp_seq (wp_region_list ?_);refine AF (v:=.int .i64 m) (w':=w) rfl (by kernel_rfl) ?_;refine AF (v:=.slice none 0 0) (w':=w) rfl (by kernel_rfl) ?_;refine AF (v:=.int .i64 0) (w':=w) rfl (by kernel_rfl) ?_;refine AF (v:=.slice none 0 0) (w':=w) rfl (by kernel_rfl) ?_;refine AF (v:=.int .i64 0) (w':=w) rfl (by kernel_rfl) ?_;refine AF (v:=.int .i64 (IntKind.i64.wrap (0-0))) (w':=w) rfl (by kernel_rfl) ?_;refine AF (v:=.int .i64 (IntKind.i64.wrap ((m:Int)-IntKind.i64.wrap (0-0)))) (w':=w) rfl (by kernel_rfl) ?_;rw[hw];refine AF (v:=.int .i64 m) (w':=w) rfl (by kernel_rfl) ?_;refine wp_seq (wp_region_list ?_);refine AF (v:=.int .i64 m) (w':=w) rfl (by kernel_rfl) ?_;refine AF (v:=.bool (decide ((m:Int)>0))) (w':=w) rfl (by kernel_rfl) ?_;rw[fb];refine wp_cond_true (by kernel_rfl) (wp_region_list ?_);refine AF (v:=.slice none 0 0) (w':=w) rfl (by kernel_rfl) ?_;refine AF (v:=.slice none 0 0) (w':=w) rfl (by kernel_rfl) ?_;refine AF (v:=.int .i64 0) (w':=w) rfl (by kernel_rfl) ?_;refine AF (v:=.slice none 0 0) (w':=w) rfl (by kernel_rfl) ?_;refine AF (v:=.int .i64 m) (w':=w) rfl (by kernel_rfl) ?_;have Q1:(match Tryz.prog.info? 94 with|some i=>(match i.zero with|some z=>i.size==2&&decide (i.bytes<=65536)&&z.cells.size==2|none=>false)|none=>false)=true:=by kernel_rfl
 split at Q1
 .rename_i i hi;split at Q1
  .rename_i z hz;simp only[and_eq_true,beq_iff_eq,decide_eq_true_eq] at Q1;obtain⟨⟨i1,i2⟩,i3⟩:=Q1;have fe:=NI (P:=Tryz.prog) (w:=w) (ty:=49) (m:=m) Tryz.underlying49 Tryz.underlying3 hi hz h0 (by omega) i2 hm;have oS:=grownCap_ge w m 0 94;generalize U3:Builtin.zeroCells z.cells m++Builtin.zeroCells z.cells (grownCap w m 0 94-m)=cs at fe
   have Cw:cs.size=grownCap w m 0 94*2:=by rw[<-U3];simp only[Array.size_append,size_zeroCells,i3];rw[<-Nat.add_mul];congr 1;omega
   generalize grownCap w m 0 94=cap at *;refine AF (v:=.slice (some ⟨w.heap.size,0,none⟩) m cap) (w':=w.drew.alloc (.cells cs 94)) rfl ?_ ?_
   .exact NK rfl rfl rfl rfl (by kernel_rfl) (by kernel_rfl) fe
   .have Eh:¬cap=0:=by omega
    refine AF (v:=.slice none 0 0) (w':=w.drew.alloc (.cells cs 94)) rfl (by kernel_rfl) ?_;refine AF (v:=.int .i64 0) (w':=w.drew.alloc (.cells cs 94)) rfl (by kernel_rfl) ?_;refine AF (v:=.slice (some ⟨w.heap.size,0,none⟩) 0 cap) (w':=w.drew.alloc (.cells cs 94)) rfl ?_ ?_
    .obtain⟨c,rfl⟩:∃c,cap=c+1:=⟨cap-1,by omega⟩
     kernel_rfl
    .refine AF (v:=.slice (some ⟨w.heap.size,0,none⟩) 0 cap) (w':=w.drew.alloc (.cells cs 94)) rfl (by kernel_rfl) ?_;refine wp_seq (wp_region_list ?_);refine AF (v:=.slice (some ⟨w.heap.size,0,none⟩) 0 cap) (w':=w.drew.alloc (.cells cs 94)) rfl (by kernel_rfl) ?_;refine AF (v:=.slice (some ⟨w.heap.size,0,none⟩) 0 cap) (w':=w.drew.alloc (.cells cs 94)) rfl (by kernel_rfl) ?_;refine _root_.Go.wp_ret ⟨rfl,.slice (some ⟨w.heap.size,0,none⟩) 0 cap,by kernel_rfl,?_⟩;exact hR cs cap oS Cw
  .cases Q1
 .cases Q1
theorem Xb(w:World)(R:Ending->World->Prop)(hR:R (.returned (.slice none 0 0)) w):Calls Tryz.prog 147 #[.slice none 0 0,.int .i64 0] w R:=by
 obtain⟨m,oR⟩:∃m:Nat,m=0:=⟨0,rfl⟩
 have hm:m<=AP:=by rw[oR];exact zero_le _
 have e0:(0:Int)=(m:Int):=by rw[oR];rfl
 have ea:(#[.slice none 0 0,.int .i64 0]:Array Value) = #[.slice none 0 0,.int .i64 m]:=by rw[oR];rfl
 rw[ea];clear e0 ea
 have hw:IntKind.i64.wrap ((m:Int)-IntKind.i64.wrap (0-0))=m:=by have h0:IntKind.i64.wrap (0-0)=0:=rfl;simp only[AP] at hm;rw[h0];simp[IntKind.wrap,IntKind.signed,IntKind.bits];omega
 have fb:decide ((m:Int)>0)=false:=by rw[oR];rfl
 have Ap:decide ((m:Int)<0)=false:=by simp
 refine calls_of_wp Tryz.func147 rfl ?_;refine wp_seq (wp_region_list ?_);refine AF (v:=.slice none 0 0) (w':=w) rfl (by kernel_rfl) ?_;refine wp_seq ?_;refine wp_seq (wp_region_list ?_);refine AF (v:=.int .i64 m) (w':=w) rfl (by kernel_rfl) ?_;refine AF (v:=.bool (decide ((m:Int)<0))) (w':=w) rfl (by kernel_rfl) ?_;rw[Ap];refine wp_cond_false (by kernel_rfl) (_root_.Go.wp_skip ?_);refine wp_seq ?_;refine wp_seq (wp_region_list ?_);refine AF (v:=.int .i64 m) (w':=w) rfl (by kernel_rfl) ?_;refine AF (v:=.slice none 0 0) (w':=w) rfl (by kernel_rfl) ?_;refine AF (v:=.int .i64 0) (w':=w) rfl (by kernel_rfl) ?_;refine AF (v:=.slice none 0 0) (w':=w) rfl (by kernel_rfl) ?_;refine AF (v:=.int .i64 0) (w':=w) rfl (by kernel_rfl) ?_;refine AF (v:=.int .i64 (IntKind.i64.wrap (0-0))) (w':=w) rfl (by kernel_rfl) ?_;refine AF (v:=.int .i64 (IntKind.i64.wrap ((m:Int)-IntKind.i64.wrap (0-0)))) (w':=w) rfl (by kernel_rfl) ?_;rw[hw];refine AF (v:=.int .i64 m) (w':=w) rfl (by kernel_rfl) ?_;refine wp_seq (wp_region_list ?_);refine AF (v:=.int .i64 m) (w':=w) rfl (by kernel_rfl) ?_;refine AF (v:=.bool (decide ((m:Int)>0))) (w':=w) rfl (by kernel_rfl) ?_;rw[fb];refine wp_cond_false (by kernel_rfl) (_root_.Go.wp_skip ?_);refine wp_seq (wp_region_list ?_);refine AF (v:=.slice none 0 0) (w':=w) rfl (by kernel_rfl) ?_;refine AF (v:=.slice none 0 0) (w':=w) rfl (by kernel_rfl) ?_;exact _root_.Go.wp_ret ⟨rfl,.slice none 0 0,by kernel_rfl,hR⟩
theorem cK{c:AQ}{dp:Nat->Option Fn}{args:List D}{S S':A1}{r:D}{f:Fn}(fY:f.np=2002)(he:Bb c f args S=some (r,S'))(F:GD)(G:List Gh)(w:World)(vs:Array Value)(hs:BX dp F G w S)(hv:LI dp F G w vs args)
  (R:Ending->World->Prop) (hR:∀v w' F' G',BX dp F' G' w' S'->Ext F G w S F' G' w' S'->Rel dp F' G' w' v r->R (.returned v) w'):Calls Tryz.prog 147 vs w R:=by
 obtain⟨n,ow,rfl,NV⟩:=TP (k:=2) fY (by omega) he;obtain⟨rfl⟩:=aP hv;rcases NV with⟨h0,h1,rfl,rfl⟩|⟨rfl,rfl,rfl⟩
 .obtain⟨m,rfl⟩:∃m:Nat,n=m:=⟨n.toNat,by omega⟩
  refine W1 m (by omega) (by simp only[AP];omega) w R fun cs cap oS Cw=>?_;obtain⟨h2,h3⟩:=hs.MW (cap:=cap) (k:=2) (xs:=[]) (HK w (.cells cs 94)) ⟨by simp,fun j x m d h=>by simp at h⟩ Cw (zero_le _) (S0:=S) rfl (fun _ _ h=>.inl h);exact hR _ _ _ _ h2.1 h2.2 h3
 .exact Xb w R (hR _ w F G hs (Ext.refl _ _ _ _) (.nil _ _))
theorem Xl(m:Nat)(h0:0<m)(hm:m<=AP)(w:World)(R:Ending->World->Prop)
  (hR:∀(cs:Array Value) (cap:Nat),m<=cap->cs.size=cap*11->R (.returned (.slice (some ⟨w.heap.size,0,none⟩) 0 cap)) (w.drew.alloc (.cells cs 141))) :
  Calls Tryz.prog 186 #[.slice none 0 0,.int .i64 m] w R:=by
 have hw:IntKind.i64.wrap ((m:Int)-IntKind.i64.wrap (0-0))=m:=by have h0:IntKind.i64.wrap (0-0)=0:=rfl;simp only[AP] at hm;rw[h0];simp[IntKind.wrap,IntKind.signed,IntKind.bits];omega
 have fb:decide ((m:Int)>0)=true:=by simp;omega
 have Ap:decide ((m:Int)<0)=false:=by simp
 refine calls_of_wp Tryz.func186 rfl ?_;refine wp_seq (wp_region_list ?_);refine AF (v:=.slice none 0 0) (w':=w) rfl (by kernel_rfl) ?_;refine wp_seq ?_;refine wp_seq (wp_region_list ?_);refine AF (v:=.int .i64 m) (w':=w) rfl (by kernel_rfl) ?_;refine AF (v:=.bool (decide ((m:Int)<0))) (w':=w) rfl (by kernel_rfl) ?_;rw[Ap];refine wp_cond_false (by kernel_rfl) (_root_.Go.wp_skip ?_);refine wp_seq ?_;refine wp_seq (wp_region_list ?_);refine AF (v:=.int .i64 m) (w':=w) rfl (by kernel_rfl) ?_;refine AF (v:=.slice none 0 0) (w':=w) rfl (by kernel_rfl) ?_;refine AF (v:=.int .i64 0) (w':=w) rfl (by kernel_rfl) ?_;refine AF (v:=.slice none 0 0) (w':=w) rfl (by kernel_rfl) ?_;refine AF (v:=.int .i64 0) (w':=w) rfl (by kernel_rfl) ?_;refine AF (v:=.int .i64 (IntKind.i64.wrap (0-0))) (w':=w) rfl (by kernel_rfl) ?_;refine AF (v:=.int .i64 (IntKind.i64.wrap ((m:Int)-IntKind.i64.wrap (0-0)))) (w':=w) rfl (by kernel_rfl) ?_;rw[hw];refine AF (v:=.int .i64 m) (w':=w) rfl (by kernel_rfl) ?_;refine wp_seq (wp_region_list ?_);refine AF (v:=.int .i64 m) (w':=w) rfl (by kernel_rfl) ?_;refine AF (v:=.bool (decide ((m:Int)>0))) (w':=w) rfl (by kernel_rfl) ?_;rw[fb];refine wp_cond_true (by kernel_rfl) (wp_region_list ?_);refine AF (v:=.slice none 0 0) (w':=w) rfl (by kernel_rfl) ?_;refine AF (v:=.slice none 0 0) (w':=w) rfl (by kernel_rfl) ?_;refine AF (v:=.int .i64 0) (w':=w) rfl (by kernel_rfl) ?_;refine AF (v:=.slice none 0 0) (w':=w) rfl (by kernel_rfl) ?_;refine AF (v:=.int .i64 m) (w':=w) rfl (by kernel_rfl) ?_;have Q1:(match Tryz.prog.info? 141 with|some i=>(match i.zero with|some z=>i.size==11&&decide (i.bytes<=65536)&&z.cells.size==11|none=>false)|none=>false)=true:=by kernel_rfl
 split at Q1
 .rename_i i hi;split at Q1
  .rename_i z hz;simp only[and_eq_true,beq_iff_eq,decide_eq_true_eq] at Q1;obtain⟨⟨i1,i2⟩,i3⟩:=Q1;have fe:=NI (P:=Tryz.prog) (w:=w) (ty:=92) (m:=m) Tryz.underlying92 Tryz.underlying3 hi hz h0 (by omega) i2 hm;have oS:=grownCap_ge w m 0 141;generalize U3:Builtin.zeroCells z.cells m++Builtin.zeroCells z.cells (grownCap w m 0 141-m)=cs at fe
   have Cw:cs.size=grownCap w m 0 141*11:=by rw[<-U3];simp only[Array.size_append,size_zeroCells,i3];rw[<-Nat.add_mul];congr 1;omega
   generalize grownCap w m 0 141=cap at *;refine AF (v:=.slice (some ⟨w.heap.size,0,none⟩) m cap) (w':=w.drew.alloc (.cells cs 141)) rfl ?_ ?_
   .exact NK rfl rfl rfl rfl (by kernel_rfl) (by kernel_rfl) fe
   .have Eh:¬cap=0:=by omega
    refine AF (v:=.slice none 0 0) (w':=w.drew.alloc (.cells cs 141)) rfl (by kernel_rfl) ?_;refine AF (v:=.int .i64 0) (w':=w.drew.alloc (.cells cs 141)) rfl (by kernel_rfl) ?_;refine AF (v:=.slice (some ⟨w.heap.size,0,none⟩) 0 cap) (w':=w.drew.alloc (.cells cs 141)) rfl ?_ ?_
    .obtain⟨c,rfl⟩:∃c,cap=c+1:=⟨cap-1,by omega⟩
     kernel_rfl
    .refine AF (v:=.slice (some ⟨w.heap.size,0,none⟩) 0 cap) (w':=w.drew.alloc (.cells cs 141)) rfl (by kernel_rfl) ?_;refine wp_seq (wp_region_list ?_);refine AF (v:=.slice (some ⟨w.heap.size,0,none⟩) 0 cap) (w':=w.drew.alloc (.cells cs 141)) rfl (by kernel_rfl) ?_;refine AF (v:=.slice (some ⟨w.heap.size,0,none⟩) 0 cap) (w':=w.drew.alloc (.cells cs 141)) rfl (by kernel_rfl) ?_;refine _root_.Go.wp_ret ⟨rfl,.slice (some ⟨w.heap.size,0,none⟩) 0 cap,by kernel_rfl,?_⟩;exact hR cs cap oS Cw
  .cases Q1
 .cases Q1
theorem Y3(w:World)(R:Ending->World->Prop)(hR:R (.returned (.slice none 0 0)) w):Calls Tryz.prog 186 #[.slice none 0 0,.int .i64 0] w R:=by
 obtain⟨m,oR⟩:∃m:Nat,m=0:=⟨0,rfl⟩
 have hm:m<=AP:=by rw[oR];exact zero_le _
 have e0:(0:Int)=(m:Int):=by rw[oR];rfl
 have ea:(#[.slice none 0 0,.int .i64 0]:Array Value) = #[.slice none 0 0,.int .i64 m]:=by rw[oR];rfl
 rw[ea];clear e0 ea
 have hw:IntKind.i64.wrap ((m:Int)-IntKind.i64.wrap (0-0))=m:=by have h0:IntKind.i64.wrap (0-0)=0:=rfl;simp only[AP] at hm;rw[h0];simp[IntKind.wrap,IntKind.signed,IntKind.bits];omega
 have fb:decide ((m:Int)>0)=false:=by rw[oR];rfl
 have Ap:decide ((m:Int)<0)=false:=by simp
 refine calls_of_wp Tryz.func186 rfl ?_;refine wp_seq (wp_region_list ?_);refine AF (v:=.slice none 0 0) (w':=w) rfl (by kernel_rfl) ?_;refine wp_seq ?_;refine wp_seq (wp_region_list ?_);refine AF (v:=.int .i64 m) (w':=w) rfl (by kernel_rfl) ?_;refine AF (v:=.bool (decide ((m:Int)<0))) (w':=w) rfl (by kernel_rfl) ?_;rw[Ap];refine wp_cond_false (by kernel_rfl) (_root_.Go.wp_skip ?_);refine wp_seq ?_;refine wp_seq (wp_region_list ?_);refine AF (v:=.int .i64 m) (w':=w) rfl (by kernel_rfl) ?_;refine AF (v:=.slice none 0 0) (w':=w) rfl (by kernel_rfl) ?_;refine AF (v:=.int .i64 0) (w':=w) rfl (by kernel_rfl) ?_;refine AF (v:=.slice none 0 0) (w':=w) rfl (by kernel_rfl) ?_;refine AF (v:=.int .i64 0) (w':=w) rfl (by kernel_rfl) ?_;refine AF (v:=.int .i64 (IntKind.i64.wrap (0-0))) (w':=w) rfl (by kernel_rfl) ?_;refine AF (v:=.int .i64 (IntKind.i64.wrap ((m:Int)-IntKind.i64.wrap (0-0)))) (w':=w) rfl (by kernel_rfl) ?_;rw[hw];refine AF (v:=.int .i64 m) (w':=w) rfl (by kernel_rfl) ?_;refine wp_seq (wp_region_list ?_);refine AF (v:=.int .i64 m) (w':=w) rfl (by kernel_rfl) ?_;refine AF (v:=.bool (decide ((m:Int)>0))) (w':=w) rfl (by kernel_rfl) ?_;rw[fb];refine wp_cond_false (by kernel_rfl) (_root_.Go.wp_skip ?_);refine wp_seq (wp_region_list ?_);refine AF (v:=.slice none 0 0) (w':=w) rfl (by kernel_rfl) ?_;refine AF (v:=.slice none 0 0) (w':=w) rfl (by kernel_rfl) ?_;exact _root_.Go.wp_ret ⟨rfl,.slice none 0 0,by kernel_rfl,hR⟩
theorem fL{c:AQ}{dp:Nat->Option Fn}{args:List D}{S S':A1}{r:D}{f:Fn}(fY:f.np=2011)(he:Bb c f args S=some (r,S'))(F:GD)(G:List Gh)(w:World)(vs:Array Value)(hs:BX dp F G w S)(hv:LI dp F G w vs args)
  (R:Ending->World->Prop) (hR:∀v w' F' G',BX dp F' G' w' S'->Ext F G w S F' G' w' S'->Rel dp F' G' w' v r->R (.returned v) w'):Calls Tryz.prog 186 vs w R:=by
 obtain⟨n,ow,rfl,NV⟩:=TP (k:=11) fY (by omega) he;obtain⟨rfl⟩:=aP hv;rcases NV with⟨h0,h1,rfl,rfl⟩|⟨rfl,rfl,rfl⟩
 .obtain⟨m,rfl⟩:∃m:Nat,n=m:=⟨n.toNat,by omega⟩
  refine Xl m (by omega) (by simp only[AP];omega) w R fun cs cap oS Cw=>?_;obtain⟨h2,h3⟩:=hs.MW (cap:=cap) (k:=11) (xs:=[]) (HK w (.cells cs 141)) ⟨by simp,fun j x m d h=>by simp at h⟩ Cw (zero_le _) (S0:=S) rfl (fun _ _ h=>.inl h);exact hR _ _ _ _ h2.1 h2.2 h3
 .exact Y3 w R (hR _ w F G hs (Ext.refl _ _ _ _) (.nil _ _))
theorem T0:∀{xs:List (List D)} {l:List (List UInt8)},Jl xs=some l->xs=l.map fun a=>[D.s a]
 |[],l,h=>by simp[Jl] at h;subst h;rfl
 |[]::_,_,h=>by simp[Jl] at h
 |[d]::xs,l,h=>by
  cases d<;>simp only[Jl] at h<;>try (cases h;done)
  rename_i a;cases ht:Jl xs with
  |none=>simp[ht] at h
  |some m=>
   simp only[ht,map_some,Option.some.injEq] at h;subst h;rw[T0 ht];rfl
 |(_::_::_)::_,_,h=>by simp[Jl] at h
theorem Mt{dp:Nat->Option Fn}{F:GD}{G:List Gh}{w:World}{S:A1}(hs:BX dp F G w S){R:Ending->World->Prop}{l:List UInt8}(hR:∀v w' F' G',BX dp F' G' w' S->Ext F G w S F' G' w' S->Rel dp F' G' w' v (.s l)->R (.returned v) w')
  {e:Ending} {w':World}:e=Ending.returned (.string ⟨l.toArray⟩)->Below w.heap.size w w'->R e w':=by
 rintro rfl hb
 have h:=hs.step (w':=w') (fun b=>w.heap.size<=b) hs.len (fun _ _ h=>h) (fun _ _ h=>h) (fun b o hF=>by
   have Ap:=hs.Ht hF
   exact World.cell?_of_block (a:=⟨b,o,none⟩) (hb.block b Ap)) (fun _ _ h=>.inl h) (fun b YJ _=>hb.block b YJ) (fun b YJ=>.inr YJ)
  (fun id e g h1 h2=>by
   by_cases hh:holds e
   .have:=hs.lt h1 h2 hh;exact .inr (.inl ⟨h1,h2,by omega⟩)
   .exact .inl hh) hb.size hb.os ⟨hb.tape,trivial⟩ hb.output
 exact hR _ w' F G h.1 h.2 (.s _)
theorem QJ{w:World}(k:Nat)(os:Array Obj):Below w.heap.size w (Sort.grow (w.drewN k) os):=
 ⟨rfl,rfl,rfl,by rw[Sort.size_grow];exact Nat.le_add_right _ _,fun b hb=>by
  show(w.heap++os)[b]? = w.heap[b]?
  rw[Array.getElem?_append_left hb]⟩
theorem tG{cs:List Value}(h:cs.map (fun(v:Value)=>match v with|Value.int .u64 n=>some n|_=>none)=(List.range 20).map fun j=>some ((10:Int)^j)):cs=Lib.pow10Tab.map fun z=>Value.int .u64 z:=by
 have e:(List.range 20).map (fun j=>some ((10:Int)^j))=Lib.pow10Tab.map some:=by decide
 rw[e] at h
 have key:∀(cs:List Value) (zs:List Int),cs.map (fun(v:Value)=>match v with|Value.int .u64 n=>some n|_=>none)=zs.map some->cs=zs.map fun z=>Value.int .u64 z:=by
  intro cs
  induction cs with
  |nil=>intro zs hz;cases zs with
   |nil=>rfl
   |cons z zs=>simp at hz
  |cons v cs ih=>intro zs hz;cases zs with
   |nil=>simp at hz
   |cons z zs=>
    simp only[List.map_cons,List.cons.injEq] at hz;rw[List.map_cons,<-ih zs hz.2];congr 1;have h1:=hz.1;split at h1
    .injection h1 with h1;rw[h1]
    .cases h1
 exact key cs _ h
theorem qp{dp:Nat->Option Fn}{F:GD}{G:List Gh}{w:World}{S:A1}(hs:BX dp F G w S):Lib.TabIs Tryz.prog w "internal/strconv.uint64pow10" .u64 Lib.pow10Tab:=by
 obtain⟨h1,_,_⟩:=hs.YA (1,Rg) (by simp[P4]);have h1:Rg w.heap[1]? = true:=h1;unfold Lib.TabIs World.var?
 have hn:Tryz.prog.globalNamed "internal/strconv.uint64pow10" = some 1:=by kernel_rfl
 rw[hn];unfold Rg at h1;split at h1
 .rename_i cs T fr heq;simp only[Option.bind_some,heq];have:=tG (eq_of_beq h1);rw[<-this]
 .cases h1
theorem one_of{dp:Nat->Option Fn}{F:GD}{G:List Gh}{w:World}{S:A1}(hs:BX dp F G w S):∃m,w.cell? ⟨2,0,none⟩=some (.int .i64 m):=by
 obtain⟨h1,_,_⟩:=hs.YA (2,KY) (by simp[P4]);have h1:KY w.heap[2]? = true:=h1;unfold KY at h1;split at h1
 .rename_i cs T heq;split at h1
  .rename_i m hc;exact⟨m,by simp only[World.cell?,heq];exact hc⟩
  .cases h1
 .cases h1
theorem AAO{vs:Array Value}{d1:D}{dp:Nat->Option Fn}{F:GD}{G:List Gh}{w:World}(h:LI dp F G w vs [d1]):∃v1,vs = #[v1]/\Rel dp F G w v1 d1:=by
 obtain⟨h1,h2⟩:=h;obtain⟨l⟩:=vs
 match l,h1 with
 |[a],_=>exact⟨a,rfl,h2 0 a d1 (by simp) rfl⟩
theorem ax{vs:Array Value}{d1 d2 d3:D}{dp:Nat->Option Fn}{F:GD}{G:List Gh}{w:World}(h:LI dp F G w vs [d1,d2,d3]):∃v1 v2 v3,vs = #[v1,v2,v3]/\Rel dp F G w v1 d1/\Rel dp F G w v2 d2/\Rel dp F G w v3 d3:=by
 obtain⟨h1,h2⟩:=h;obtain⟨l⟩:=vs
 match l,h1 with
 |[a,b,c],_=>exact⟨a,b,c,rfl,h2 0 a d1 (by simp) rfl,h2 1 b d2 (by simp) rfl,h2 2 c d3 (by simp) rfl⟩
theorem itoa_ok{c:AQ}{dp:Nat->Option Fn}{args:List D}{S S':A1}{r:D}{f:Fn}(fY:f.np=1003)(he:Bb c f args S=some (r,S'))(F:GD)(G:List Gh)(w:World)(vs:Array Value)(hs:BX dp F G w S)(hv:LI dp F G w vs args)
  (R:Ending->World->Prop) (hR:∀v w' F' G',BX dp F' G' w' S'->Ext F G w S F' G' w' S'->Rel dp F' G' w' v r->R (.returned v) w'):Calls Tryz.prog 190 vs w R:=by
 unfold Bb at he;rw[if_neg (by omega),if_neg (by omega),if_pos fY] at he;split at he
 .rename_i n;split at he
  .rename_i hn;injection he with he
   injection he with h1 h2
   subst h1 h2;obtain⟨v1,rfl,r1⟩:=AAO hv;cases r1;refine(Any.strconv_Itoa Tryz.laysItoa n hn.1 hn.2 w (qp hs)).mono fun e w' h=>?_;obtain⟨h1,k,os,rfl⟩:=h;exact Mt hs hR h1 (QJ k os)
  .cases he
 .cases he
theorem fmt_ok{c:AQ}{dp:Nat->Option Fn}{args:List D}{S S':A1}{r:D}{f:Fn}(fY:f.np=1004)(he:Bb c f args S=some (r,S'))(F:GD)(G:List Gh)(w:World)(vs:Array Value)(hs:BX dp F G w S)(hv:LI dp F G w vs args)
  (R:Ending->World->Prop) (hR:∀v w' F' G',BX dp F' G' w' S'->Ext F G w S F' G' w' S'->Rel dp F' G' w' v r->R (.returned v) w'):Calls Tryz.prog 314 vs w R:=by
 unfold Bb at he;rw[if_neg (by omega),if_neg (by omega),if_neg (by omega),if_pos fY] at he;split at he
 .rename_i n b;split at he
  .rename_i hn;obtain⟨rfl,hn1,hn2⟩:=hn;injection he with he
   injection he with h1 h2
   subst h1 h2;obtain⟨v1,v2,rfl,r1,r2⟩:=SS hv;cases r1;cases r2;refine(Any.strconv_FormatInt_10 Tryz.laysFmt n hn1 hn2 w (qp hs)).mono fun e w' h=>?_;obtain⟨h1,k,os,rfl⟩:=h;exact Mt hs hR h1 (QJ k os)
  .cases he
 .cases he
theorem repl_ok{c:AQ}{dp:Nat->Option Fn}{args:List D}{S S':A1}{r:D}{f:Fn}(fY:f.np=1002)(he:Bb c f args S=some (r,S'))(F:GD)(G:List Gh)(w:World)(vs:Array Value)(hs:BX dp F G w S)(hv:LI dp F G w vs args)
  (R:Ending->World->Prop) (hR:∀v w' F' G',BX dp F' G' w' S'->Ext F G w S F' G' w' S'->Rel dp F' G' w' v r->R (.returned v) w'):Calls Tryz.prog 315 vs w R:=by
 unfold Bb at he;rw[if_neg (by omega),if_pos fY] at he;split at he
 .rename_i s old new;split at he
  .rename_i hn;obtain⟨hn1,hn2,hn3⟩:=hn;injection he with he
   injection he with h1 h2
   subst h1 h2;obtain⟨v1,v2,v3,rfl,r1,r2,r3⟩:=ax hv;cases r1;cases r2;cases r3;obtain⟨m,hm⟩:=one_of hs;have Cw:∀l:List UInt8,(⟨l.toArray⟩:ByteArray).size=l.length:=fun l=>by simp[ByteArray.size]
   have hc:=Lib.countB_mul_le ⟨old.toArray⟩ (by rw[Cw];exact hn2) s.length ⟨s.toArray⟩ (by rw[Cw];exact Nat.le_refl _);rw[Cw,Cw] at hc
   have hcount:Lib.countB ⟨s.toArray⟩ ⟨old.toArray⟩<=1048576:=by have h1:Lib.countB ⟨s.toArray⟩ ⟨old.toArray⟩*1<=Lib.countB ⟨s.toArray⟩ ⟨old.toArray⟩*old.length:=Nat.mul_le_mul_left _ hn2;omega
   have hmul:Lib.countB ⟨s.toArray⟩ ⟨old.toArray⟩*new.length<=1048576*1024:=Nat.mul_le_mul hcount hn3;refine(Any.strings_ReplaceAll Tryz.laysRepl Tryz.extraRepl ⟨s.toArray⟩ ⟨old.toArray⟩ ⟨new.toArray⟩ m w (by rw[Cw];omega) hm (by rw[Cw];exact hn2) (by rw[Cw,Cw];omega)).mono fun e w' h=>?_;exact Mt hs hR h.1 h.2
  .cases he
 .cases he
theorem AAL{c:AQ}{dp:Nat->Option Fn}{args:List D}{S S':A1}{r:D}{f:Fn}(fY:f.np=1001)(he:Bb c f args S=some (r,S'))(F:GD)(G:List Gh)(w:World)(vs:Array Value)(hs:BX dp F G w S)(hv:LI dp F G w vs args)
  (R:Ending->World->Prop) (hR:∀v w' F' G',BX dp F' G' w' S'->Ext F G w S F' G' w' S'->Rel dp F' G' w' v r->R (.returned v) w'):Calls Tryz.prog 191 vs w R:=by
 unfold Bb at he;rw[if_pos fY] at he;split at he
 .rename_i nl xs ow sep;split at he
  .rename_i l hl;split at he
   .rename_i hlen;injection he with he
    injection he with h1 h2
    subst h1 h2;have hx:=T0 hl;subst hx;obtain⟨v1,v2,rfl,r1,r2⟩:=SS hv;cases r2;have fin:∀e w',e=Ending.returned (.string ⟨(sep.intercalate l).toArray⟩)->Below w.heap.size w w'->R e w':=fun e w'=>Mt hs hR
    have none_:∀(ad:Option Addr) (c:Nat),l=[]->Calls Tryz.prog 191 #[.slice ad 0 c,.string ⟨sep.toArray⟩] w R:=by rintro ad c rfl;refine(Any.strings_Join_none Tryz.laysJoin Tryz.extraJoin ad c ⟨sep.toArray⟩ w).mono fun e w' h=>?_;exact fin e w' h.1 (h.2▸Below.refl _ _)
    by_cases h0:l=[]
    .subst h0;cases r1 with
     |nil=>exact none_ none 0 rfl
     |emp _ ad cap=>exact none_ (some ad) cap rfl
     |sl _ _ _ blk off cap c YN Eh h1 h2 ho=>exact none_ (some ⟨blk,off,none⟩) cap rfl
    .generalize pD:List.map (fun a=>[D.s a]) l=xs at r1;have CF:xs≠[]:=by rw[<-pD];simpa using h0
     cases r1 with
     |nil=>exact absurd rfl CF
     |emp _ ad cap=>exact absurd rfl CF
     |sl _ _ _ blk off cap c YN Eh h1 h2 ho=>
      have U5:xs.length=l.length:=by rw[<-pD];simp
      have Cv:∀(j:Nat) (x:ByteArray),(l.map fun a=>(⟨a.toArray⟩:ByteArray))[j]? = some x->w.cell? ⟨blk,off+j,none⟩=some (.string x):=by
       intro j x hj;rw[List.getElem?_map] at hj;cases hlj:l[j]? with
       |none=>simp[hlj] at hj
       |some a=>
        simp only[hlj,map_some,Option.some.injEq] at hj;subst hj;have hxj:xs[j]? = some [D.s a]:=by rw[<-pD,List.getElem?_map,hlj];rfl
        have e1:=(h1 j _ 0 _ hxj rfl).2.1;have e2:=h2 j _ 0 _ hxj rfl;generalize c j 0=v at e1 e2;cases e2;simpa using e1
      have hbk:blk<w.heap.size:=by
       obtain⟨a,l',rfl⟩:∃a l',l=a::l':=by
        cases l with
        |nil=>exact absurd rfl h0
        |cons a l'=>exact⟨a,l',rfl⟩
       have:=Cv 0 ⟨a.toArray⟩ rfl;exact World.block_lt_of_cell? w _ this
      have hmap:(l.map fun a=>(⟨a.toArray⟩:ByteArray)).map (·.data.toList)=l:=by
       rw[List.map_map];have:((fun(x:ByteArray)=>x.data.toList) ∘ fun a:List UInt8=>(⟨a.toArray⟩:ByteArray))=id:=by funext a;simp
       rw[this,List.map_id]
      have hbig:xs.length<=140737488355328:=by rw[U5];omega
      have hc:=Any.strings_Join Tryz.laysJoin Tryz.extraJoin blk off cap (l.map fun a=>(⟨a.toArray⟩:ByteArray)) ⟨sep.toArray⟩ w Cv hbk (by simpa[U5] using hbig) (by simpa[U5] using Eh) (by rw[hmap];simp only[Lib.join];omega);rw[hmap] at hc;simp only[List.length_map] at hc;rw[U5];exact hc.mono fun e w' h=>fin e w' h.1 h.2
   .cases he
  .cases he
 .cases he
theorem prims:dpL.all (fun q=>decide (q.2.np<1000)||(q.2.np==1001&&q.2.real==191)||(q.2.np==1002&&q.2.real==315)||(q.2.np==1003&&q.2.real==190)||(q.2.np==1004&&q.2.real==314)||(q.2.np==2002&&q.2.real==147)||(q.2.np==2011&&q.2.real==186)||(q.2.np==3002&&(q.2.real==192||q.2.real==273)))=true:=by kernel_rfl
theorem noP_lt{dp:Nat->Option Fn}{g:Nat}{f:Fn}(h:Ky dp g=some f):f.np<1000:=by
 unfold Ky at h;split at h
 .split at h
  .rename_i hl;injection h with h;rw[<-h];exact hl.1
  .cases h
 .cases h
theorem mc:dpL.all (fun p=>!(decide (p.2.np<1000)&&wz.contains p.1)||mFn Tryz.prog (Ky dp) p.2)=true:=by kernel_rfl
theorem Qb{Z:Type}:∀{l:List (Nat × Z)} {g:Nat} {f:Z},l.lookup g=some f->(g,f)∈l
 |[],_,_,h=>by simp at h
 |(k,x)::l,g,f,h=>by
  simp only[List.lookup_cons] at h;split at h
  .rename_i hk;injection h with h
   have:g=k:=by simpa using hk
   rw[this,h];simp
  .exact List.mem_cons_of_mem _ (Qb h)
theorem goodN:Good Tryz.prog (Ky dp):=by
 intro g f h;have h2:=h;unfold Ky at h2;split at h2
 .rename_i f' hf;split at h2
  .rename_i hc;injection h2 with h2
   subst h2;have:=List.all_eq_true.1 mc _ (Qb hf);simp only[Bool.or_eq_true,Bool.not_eq_true',Bool.and_eq_false_imp,decide_eq_true_eq] at this;rcases this with h3|h3
   .rw[h3 hc.1] at hc;cases hc.2
   .exact h3
  .cases h2
 .cases h2
theorem uj:@Ez Ga.mono Tryz.prog (Ky dp) (call (Ky dp)):=by
 letI:Ga:=Ga.mono
 exact Tf mixed goodN (Py.of_no fun g f h=>noP_lt h)
theorem yV:Py Tryz.prog dp:=by
 intro g f args S r S' hg he;obtain⟨p,hp,rfl⟩:=Nk hg;have h:=List.all_eq_true.1 prims p hp;simp only[Bool.or_eq_true,and_eq_true,beq_iff_eq,decide_eq_true_eq] at h;rcases h with((((((h|h)|h)|h)|h)|h)|h)|h
 .unfold Bb at he;rw[if_neg (by omega),if_neg (by omega),if_neg (by omega),if_neg (by omega),if_neg (by omega),if_neg (by omega)] at he;cases he
 .rw[h.2];exact AAL h.1 he
 .rw[h.2];exact repl_ok h.1 he
 .rw[h.2];exact itoa_ok h.1 he
 .rw[h.2];exact fmt_ok h.1 he
 .rw[h.2];exact cK h.1 he
 .rw[h.2];exact fL h.1 he
 .intro F G w vs hs hv R hR;rcases h.2 with h2|h2
  .exact ph Tryz.sortTm 2 Tryz.isAgg94 Tryz.sizeOf94 NA.enter uj h.1 h2 he F G w vs hs hv R hR
  .exact ph Tryz.sortRow 2 Tryz.isAgg40 Tryz.sizeOf40 NA.enter uj h.1 h2 he F G w vs hs hv R hR
theorem sound:Ez Tryz.prog dp (call dp):=Tf mixed NA yV
end Go.Proofs.YtjniafcnjbbomaaGreatDoor.DE
