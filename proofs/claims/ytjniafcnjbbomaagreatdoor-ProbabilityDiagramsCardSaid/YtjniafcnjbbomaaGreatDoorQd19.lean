/-
  SEVERAL TEXTS IN ONE (joined by tools/asm3.py of this repository): Gw, Hc.
-/
import Derived.Test.YtjniafcnjbbomaaGreatDoorQd12
import Derived.Test.YtjniafcnjbbomaaGreatDoorQd18
set_option linter.unusedVariables false
set_option linter.unusedSimpArgs false
namespace Go.Proofs.YtjniafcnjbbomaaGreatDoor.DE.V
open Go NL
structure OkH (c:Ch):Prop where
 l1:Lim c.num
 l2:Lim c.den
 f1:NF c.2.1.1 c.num
 f2:NF c.2.2.1 c.den
theorem OkL_of {l:List Ch} (h:∀ c,c∈l→OkH c) (hf:FewL l):OkL l∧Bd l.length:=by
 refine ⟨fun c hc=>⟨(h c hc).l1,(h c hc).l2,(h c hc).f1,(h c hc).f2,?_,?_⟩,?_⟩
 ·have:=(hf.1 c hc).1;unfold Bd;omega
 ·have:=(hf.1 c hc).2;unfold Bd;omega
 ·have:=hf.2;unfold Bd;omega
end Go.Proofs.YtjniafcnjbbomaaGreatDoor.DE.V

namespace Go.Proofs.YtjniafcnjbbomaaGreatDoor.DE.V
open Go NL BT
theorem dres_vq {ord:List Row} {l:List Ch} (hok:OkL l) (hv:VL l) {ns:List Nd} {root:Int}:∀ q,dres ord l ns root=some q→Lt128 q.1∧Lt128 q.2:=by
 intro q h
 unfold dres at h
 cases ho:dvals ord l ns with
 | none=>rw [ho] at h;cases h
 | some vs=>
  rw [ho,Option.map_some] at h
  injection h with h
  have hq:VQ q:=by
   rw [←h]
   refine getD_vq ?_ _
   exact dvals_vq hok hv ns (some [(0,1),(1,1)]) (fun vs h q hq=>by
    injection h with h
    subst h
    rcases List.mem_cons.1 hq with h | h
    ·rw [h];exact VQ_zero
    ·rw [List.mem_singleton.1 h];exact VQ_one) vs ho
  exact ⟨hq.f1,hq.f2⟩
theorem same_diagrams (nl nl' nc:Bool) (ord:List Row) (ns:List Nd) (root:Int) (l:List Ch) (hn:nl=true→ord=[]) (hok:OkL l) (hb:Bd l.length) (hf:∀ c,c∈l→c.num.length≤1000∧c.den.length≤1000) (b1:Bd (ns.length+2)) (b2:Bd ord.length) :
  ∃ d c d' c',isoCall (call dp) 9 [eB nl nl' ord ns root,eChs nc l]=some (.tup [d,c])∧isoCall (call dp) 10 [eB nl nl' ord ns root,eChs nc l]=some (.tup [d',c'])∧IsQ d∧IsQ d'∧isoCall (call dp) 11 [d,c,d',c']=some (.b true):=by
 by_cases hv:VB ord ns root∧VL l
 ·obtain ⟨r,e1,h1⟩:=v9_ok nl nl' nc ord ns root l hn hv.1 hok hv.2 hb hf
  obtain ⟨r',e2,h2⟩:=v10_ok nl nl' nc ord ns root l hv.1 hok hv.2 hb
  obtain ⟨d,k,rfl,s1⟩:=h1.split
  obtain ⟨d',k',rfl,s2⟩:=h2.split
  exact ⟨d,.i .i64 k,d',.i .i64 k',e1,e2,s1.isQ,s2.isQ,v11 _ 6 _ _ _ _ h1 h2 (dres_vq hok hv.2)⟩
 ·exact ⟨zeroQ,.i .i64 1,zeroQ,.i .i64 1,v9_bad nl nl' nc ord ns root l hn hv hok hb b1 b2,v10_bad nl nl' nc ord ns root l hv hok hb b1 b2,isQ_zero,isQ_zero,v11 none 1 _ _ _ _ rfl rfl (fun q h=>by cases h)⟩
theorem law3 (nl nl' nc:Bool) (ord:List Row) (ns:List Nd) (root:Int) (l:List Ch) (hn:nl=true→ord=[]) (hokh:∀ c,c∈l→OkH c) (hb0:l.length≤maxLen):isoCall (call dp) 3 [eB nl nl' ord ns root,eChs nc l]=some (.b true):=by
 apply i3 _ _ _ (by simp [noRefL]) rfl
 have u7:=v7 nc l hb0
 have fan:∀ id o p,faD o (.bx id p)=some (.bx id (p+o)):=fun _ _ _=>rfl
 have h0:ldD [Ent.box [eRows nl ord,eNds nl' ns,.i .i64 root]] 1 false (.bx 0 0)=some (eRows nl ord):=rfl
 have h1:ldD [Ent.box [eRows nl ord,eNds nl' ns,.i .i64 root]] 1 false (.bx 0 1)=some (eNds nl' ns):=rfl
 have h3:ldD [Ent.box [eRows nl ord,eNds nl' ns,.i .i64 root]] 3 true (.bx 0 0)=some (eB nl nl' ord ns root):=rfl
 have g8:binD .gtr .num (.i .i64 (ord.length:Int)) (.i .i64 8)=some (.b (decide (8<ord.length))):=gtr_nat _ 8
 have g20:binD .gtr .num (.i .i64 (ns.length:Int)) (.i .i64 20)=some (.b (decide (20<ns.length))):=gtr_nat _ 20
 have u8:isoCall (call dp) 8 []=some (.b true):=v8
 simp only [s3,strip_eB,strip_chs,bxx_eq,cellsK_eB,OX_some,u7,un_not,List.length_nil]
 by_cases hf:FewL l
 ·by_cases h8:8<ord.length
  ·simp only [hf,h8,decide_true,Bool.not_true,gsel_ff,gsel_tf,fan,Nat.zero_add,h0,lenD_rows,g8,OX_some,pick_f,pick_t,WB_true,u8]
   rfl
  ·by_cases h20:20<ns.length
   ·simp only [hf,h8,h20,decide_true,decide_false,Bool.not_true,gsel_ff,fan,Nat.zero_add,h0,h1,lenD_rows,lenD_nds,g8,g20,OX_some,pick_f,WB_true,u8]
    rfl
   ·have hf4:=hf.1
    obtain ⟨hok,hb⟩:=OkL_of hokh hf
    obtain ⟨d,c,d',c',e1,e2,i1,i2,e3⟩:=same_diagrams nl nl' nc ord ns root l hn hok hb (fun c hc=>⟨by have:=(hf4 c hc).1;omega,by have:=(hf4 c hc).2;omega⟩) (by unfold Bd;omega) (by unfold Bd;omega)
    obtain ⟨S23,e23,q23,l23,k23⟩:=newQ [Ent.box [eRows nl ord,eNds nl' ns,.i .i64 root]] i1
    obtain ⟨S31,e31,q31,l31,k31⟩:=newQ S23 i2
    have hS23:S23.length=2:=l23
    have q23':QAt S31 1 d:=by
     obtain ⟨u,v,hz,h⟩:=q23
     exact ⟨u,v,hz,by rw [k31 _ (by rw [hS23];decide)];exact h⟩
    have hB:ldD S23 3 true (.bx 0 0)=some (eB nl nl' ord ns root):=by
     rw [ldD_bx,k23 0 (by simp)];rfl
    simp only [List.length_cons,List.length_nil,Nat.zero_add] at e23
    simp only [hf,h8,h20,decide_true,decide_false,Bool.not_true,gsel_ff,fan,Nat.zero_add,h0,h1,h3,lenD_rows,lenD_nds,g8,g20,OX_some,pick_f,WB_false,e1,e2,ext_eq,List.getElem?_cons_zero,List.getElem?_cons_succ,al_eq,List.length_cons,List.length_nil,e23,hB,e31,q23'.ld,q31.ld,e3,gsel_tt,u8,pick_t]
    rfl
 ·simp only [hf,decide_false,Bool.not_false,gsel_tf,OX_some,pick_t,WB_true,u8]
  rfl
end Go.Proofs.YtjniafcnjbbomaaGreatDoor.DE.V
