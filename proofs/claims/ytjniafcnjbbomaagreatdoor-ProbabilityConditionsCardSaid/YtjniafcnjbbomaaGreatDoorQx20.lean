/- Joined texts. -/
import Derived.Test.YtjniafcnjbbomaaGreatDoorQx10
import Derived.Test.YtjniafcnjbbomaaGreatDoorQx18
import Derived.Test.YtjniafcnjbbomaaGreatDoorQx19
import Derived.Test.YtjniafcnjbbomaaGreatDoorTie
import Derived.Test.YtjniafcnjbbomaaGreatDoorCards
import Derived.SevenTiedAt
import Derived.Lay
import Derived.Clock
import Derived.Lib.LaidU8
import Derived.Shelf.Vars
set_option linter.all false
namespace Go.Proofs.YtjniafcnjbbomaaGreatDoor
section
open Go.ChangeShapes Go.WideShapes Go.ChangeAt Go.RowKit
set_option maxRecDepth 100000
theorem Tryz.own:ownKnob Tryz.prog.godebug=none:=by kernel_rfl
theorem Tryz.laidOut:laidOutB Tryz.prog=true:=by kernel_rfl
theorem NS{H:Type}{enc:TypeId×Value->H}{W W':World}(hb:Below W.heap.size W W'):∀(ts:List TypeId) (vs:List Value) (ds:List (DataW H)) (ps:List MemPlace),
  (∀t∈ts,Tryz.prog.readableRec t=true/\t < Tryz.prog.types.size)->DataW.TrodAll enc Tryz.prog W 0 (fun _=>true) true ts vs ds ps->(∀x∈ps,x.block<W.heap.size) ->
  DataW.TrodAll enc Tryz.prog W' 0 (fun b=>decide (b<W.heap.size)) true ts vs ds ps
 |[],[],[],_,_,h,_=>h
 |t::ts,v::vs,d::ds,ps,hr,h,Ap=>by
  obtain⟨p,q,h1,h2,rfl⟩:=h
  exact⟨p,q,Below.trod Tryz.laidOut (hr t (by simp)).1 (hr t (by simp)).2 h1 hb (fun x hx=>Ap x (List.mem_append_left _ hx)),
   NS hb ts vs ds q (fun t ht=>hr t (List.mem_cons_of_mem _ ht)) h2 (fun x hx=>Ap x (List.mem_append_right _ hx)),rfl⟩
theorem lM{F F':DE.GD}{G':List DE.Gh}{W W':World}{S':DE.A1}(e:DE.Ext F [] W [] F' G' W' S'):Below W.heap.size W W':=
 ⟨e.os,e.tape.1,e.output,e.size,fun b hb=>e.frame b hb (DE.HU b)⟩
theorem DE.WC{d:DE.D}{c:Bool}(h:DE.Ae d=.b c):d=.b c:=by cases d<;>first|exact h|(simp[DE.Ae,DE.strip] at h)
theorem DE.Yy{g:Nat}{args:List DE.D}{c:Bool}(h:DE.A0 (DE.call DE.dp) g args=some (.b c))(hs:DE.stripL args=args):∃S',DE.call DE.dp g args []=some (.b c,S'):=by
 simp only[DE.A0] at h;rw[hs] at h;cases hc:DE.call DE.dp g args [] with
 |none=>rw[hc] at h;split at h<;>cases h
 |some p=>
  obtain⟨d,S'⟩:=p;rw[hc] at h;simp only at h;split at h
  .split at h
   .injection h with h
    exact⟨S',by rw[DE.WC h]⟩
   .cases h
  .cases h
def pow10s:List Int:=[1,10,100,1000,10000,100000,1000000,10000000,100000000,1000000000,10000000000,100000000000,1000000000000,10000000000000,100000000000000,1000000000000000,10000000000000000,100000000000000000,1000000000000000000,10000000000000000000]
theorem rR:(Rows.probabilityConditionsRow.laid.all fun x=>x.2.handleName?.isNone)=true:=by kernel_rfl
theorem tM:Tryz.prog.globalNamed "internal/strconv.uint64pow10" = some 1:=by kernel_rfl
theorem pc_powT:(Tryz.prog.globals[1]?).map (·.type)=some 387:=by kernel_rfl
theorem pc_g2:2 < Tryz.prog.globals.size:=of_decide_eq_true (by kernel_rfl)
theorem pc_z2:((begin Tryz.prog (fun _ _=>0) default).world.heap[2]?).bind Obj.row? = some (#[.int .i64 0],3):=by kernel_rfl
theorem pc_b3:Tryz.prog.buildable 3=true:=by kernel_rfl
theorem pc_c3:Tryz.prog.cellTypes Tryz.prog.depth 3=some [3]:=by kernel_rfl
theorem pc_c68:Tryz.prog.cellsOf 68=1:=by kernel_rfl
theorem AA7:Tryz.prog.cellsOf 387=20:=by kernel_rfl
theorem glob0{W:World}(hL:laidMetH Tryz.prog Rows.probabilityConditionsRow.laid W)(hS:W.ShapedOpen Tryz.prog):DE.nQ [] W []:=by
 rw[MakeChecks.laidMetH_plain _ _ _ rR] at hL;intro q hq;simp only[DE.P4,List.mem_cons,List.not_mem_nil,or_false] at hq;rcases hq with rfl|rfl
 .obtain⟨g,t,cs,fuel,p,h1,h2,h3,h4⟩:=Go.Lib.laidMet.reads hL (n:= "internal/strconv.uint64pow10") (d:=Rows.laid_internal_strconv_uint64pow10) (by simp[Rows.probabilityConditionsRow]);obtain rfl:=Option.some.inj (tM.symm.trans h1);obtain rfl:=Option.some.inj (pc_powT.symm.trans h2);have hz:(Rows.laid_internal_strconv_uint64pow10:DataW Unit)=Go.Lib.tabData .u64 pow10s:=rfl;rw[hz] at h4;have h5:=Go.Lib.cells_of_tab Tryz.underlying387 Tryz.underlying68 pc_c68 AA7 h4;unfold World.var? at h3;rw[tM,Option.bind_some] at h3;cases hh:W.heap[1]? with
  |none=>rw[hh] at h3;cases h3
  |some o=>
   rw[hh] at h3;cases o with
   |cells c ty fr=>
    injection h3 with h3
    subst h3;have Ap:1<W.heap.size:=(Array.getElem?_eq_some_iff.1 hh).1;refine⟨?_,Ap,DE.HU 1⟩;show(c.toList.map _==_)=true;rw[h5];rfl
   |_=>cases h3
 .obtain⟨cs,hh,_,_⟩:=hS.1 2 _ _ pc_g2 pc_z2;obtain⟨m,hm⟩:=cell_of_shapedOpen_int hS pc_g2 pc_z2 rfl pc_b3 pc_c3 Tryz.underlying3;have Ap:2<W.heap.size:=(Array.getElem?_eq_some_iff.1 hh).1;refine⟨?_,Ap,DE.HU 2⟩;have h0:cs[0]? = some (.int .i64 m):=by simpa[World.cell?,hh] using hm
  show DE.KY W.heap[2]? = true;rw[hh];simp only[DE.KY,h0]
theorem J8:([49,49,26].all fun t=>Tryz.prog.readableRec t&&decide (t < Tryz.prog.types.size))=true:=by kernel_rfl
theorem Hu(os:Os)(started:os.Started)(H:Type)(enc:TypeId×Value->H)(F:Stop.Interp) :
  ReturnsInHanded { calm:=true } Tryz.checked os 6 .any (fun w args=>(Rows.probabilityConditionsSpec.pre enc Tryz.prog Tryz.f6 Rows.probabilityConditionsRow.domain false w args/\laidMetH Tryz.prog Rows.probabilityConditionsRow.laid w)/\sizedMet enc Tryz.prog Tryz.f6 (OpenSpec.ofChange Rows.probabilityConditionsSpec) false w args)
   ((OpenSpec.ofChange Rows.probabilityConditionsSpec).postWith enc Tryz.prog Tryz.f6 F (outsideKept [.timePasses]) false true false):=by
 refine Go.Clock.returns_of_change (C:=Tryz.checked) (X:=fun w _=>laidMetH Tryz.prog Rows.probabilityConditionsRow.laid w) (fun _ _ _ hh h=>h.of_heap hh) Tryz.own started (by kernel_rfl) Tryz.func6
  (Go.Clock.witness_at (enc:=enc) (C:=Tryz.checked) (os:=os) (X:=fun w _=>laidMetH Tryz.prog Rows.probabilityConditionsRow.laid w) (World.laidAll Tryz.prog os Rows.probabilityConditionsRow.laid) #[.slice none 0 0,.slice none 0 0,.slice none 0 0] 8 (World.laidAll_os _ _ _)
   (World.shaped_of_ZipB (by kernel_rfl) (by kernel_rfl)) (by kernel_rfl) (by kernel_rfl) (by kernel_rfl)
   (by rw[MakeChecks.laidMetH_plain _ _ _ (by kernel_rfl)];exact laidMet_laidAll _ (by kernel_rfl) (by kernel_rfl))) ?_
 intro W base args ds gs before hval0 hW hc hweigh hL hS;have Lq:∀(j:Nat) t v,Tryz.f6.params[j]? = some t->args[j]? = some v->Value.okWide Tryz.prog W .any base t v:=hval0;have hW':=hW;obtain⟨p,q,hA0,hV,rfl,_,_⟩:=hW;have hA:DataW.TrodAll enc Tryz.prog W 0 (fun _=>true) true Tryz.f6.params.toList args.toList ds p:=hA0;have hA1:=hA;rw[Tryz.params6] at hA Lq;obtain⟨v0,v1,v2,d0,d1,d2,p0,p1,p2,rfl,rfl,rfl,h0,h1,h2⟩:=trodAll_three hA;obtain⟨rfl,rfl⟩:=trodVars_none hV;simp only[List.append_nil] at hW'
 have hwt:∀(j:Nat) (t:TypeId) (d:DataW H),(Tryz.f6.params.toList++Rows.probabilityConditionsSpec.plain.varTypes Tryz.prog)[j]? = some t->([d0,d1,d2]++[])[j]? = some d->DE.V.Wt t d:=fun j t d hj hd n hn=>by have:=List.all_eq_true.1 hweigh n (DataW.weights_mem_each hj hd n hn);simpa using this
 have w0:DE.V.Wt 49 d0:=hwt 0 49 d0 (by rw[Tryz.params6];rfl) rfl;have w1:DE.V.Wt 49 d1:=hwt 1 49 d1 (by rw[Tryz.params6];rfl) rfl;obtain⟨a0,k0,R0⟩:=DE.V.VI (dp:=DE.dp) (Lq 0 49 v0 rfl rfl) h0 w0;obtain⟨a1,k1,R1⟩:=DE.V.VI (dp:=DE.dp) (Lq 1 49 v1 rfl rfl) h1 w1;obtain⟨n2,l2,g2,k2,z2,R2⟩:=DE.V.mw (dp:=DE.dp) (Lq 2 26 v2 rfl rfl) h2
 obtain⟨S',Ve⟩:=DE.Yy (DE.V.law6 DE.v8 a0 a1 k0 k1 n2 l2 (fun c hc=>⟨(k2 c hc).2.2.1,(k2 c hc).2.2.2,(k2 c hc).1,(k2 c hc).2.1⟩) z2)
  (by simp only[DE.stripL,DE.V.Ke.strip,DE.V.JH])
 refine DE.sound 6 DE.d6 _ [] _ S' rfl Ve (DE.V.there W) [] W #[v0,v1,v2] (DE.V.sim0 W (glob0 hL hS)) ⟨rfl,?_⟩ _ ?_
 .intro j v d hv hd
  match j with
  |0=>simp at hv hd;subst hv hd;exact R0
  |1=>simp at hv hd;subst hv hd;exact R1
  |2=>simp at hv hd;subst hv hd;exact R2
  |j+3=>simp at hv
 .intro v W' F' G' _ hE hR;cases hR;have hb:=lM hE;have hos:({ W' with os:=W.os }:World)=W':=by rw[<-hE.os]
  refine⟨_,rfl,?_,by rw[hE.os];exact Go.Clock.Later.refl _⟩;rw[hos];refine⟨_,_,_,[],_,[],hW',trodAll_mk1 (shut_bool Tryz.underlying4 _),NS hb _ _ _ _ ?_ hA1 (fun x hx=>by simpa using hW'.lt x hx),rfl,hb.frame _,fun h=>by cases h⟩;intro t ht;rw[Tryz.params6] at ht;have:=List.all_eq_true.1 J8 t (by simpa using ht);simpa using this
end
end Go.Proofs.YtjniafcnjbbomaaGreatDoor
