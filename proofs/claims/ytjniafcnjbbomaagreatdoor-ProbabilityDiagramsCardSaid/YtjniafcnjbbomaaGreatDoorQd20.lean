/-
  SEVERAL TEXTS IN ONE (joined by tools/asm3.py of this repository): Hd.
-/
import Derived.Test.YtjniafcnjbbomaaGreatDoorQd11
import Derived.Test.YtjniafcnjbbomaaGreatDoorQd19
import Derived.Test.YtjniafcnjbbomaaGreatDoorTie
import Derived.Test.YtjniafcnjbbomaaGreatDoorCards
import Derived.SevenTiedAt
import Derived.Lay
set_option linter.unusedVariables false
set_option linter.unusedSimpArgs false
namespace Go.Proofs.YtjniafcnjbbomaaGreatDoor
open Go.ChangeShapes Go.WideShapes Go.ChangeAt Go.RowKit
set_option maxRecDepth 100000
theorem Tryz.own:ownKnob Tryz.prog.godebug=none:=by kernel_rfl
theorem Tryz.laidOut:laidOutB Tryz.prog=true:=by kernel_rfl
theorem trodAll_below {H:Type} {enc:TypeId × Value→H} {W W':World} (hb:Below W.heap.size W W'):∀ (ts:List TypeId) (vs:List Value) (ds:List (DataW H)) (ps:List MemPlace),
  (∀ t∈ts,Tryz.prog.readableRec t=true∧t < Tryz.prog.types.size)→DataW.TrodAll enc Tryz.prog W 0 (fun _=>true) true ts vs ds ps→(∀ x∈ps,x.block<W.heap.size) →
  DataW.TrodAll enc Tryz.prog W' 0 (fun b=>decide (b<W.heap.size)) true ts vs ds ps
 | [],[],[],_,_,h,_=>h
 | t::ts,v::vs,d::ds,ps,hr,h,hlt=>by
  obtain ⟨p,q,h1,h2,rfl⟩:=h
  exact ⟨p,q,Below.trod Tryz.laidOut (hr t (by simp)).1 (hr t (by simp)).2 h1 hb (fun x hx=>hlt x (List.mem_append_left _ hx)),
   trodAll_below hb ts vs ds q (fun t ht=>hr t (List.mem_cons_of_mem _ ht)) h2 (fun x hx=>hlt x (List.mem_append_right _ hx)),rfl⟩
theorem below_ext {F F':DE.Fix} {G':List DE.Gh} {W W':World} {S':DE.Store} (e:DE.Ext F [] W [] F' G' W' S'):Below W.heap.size W W':=
 ⟨e.os,e.tape,e.output,e.size,fun b hb=>e.frame b hb (DE.not_owns b)⟩
theorem DE.stripT_b_inv {d:DE.D} {c:Bool} (h:DE.stripT d = .b c):d = .b c:=by
 cases d <;> first | exact h | (simp [DE.stripT,DE.strip] at h)
theorem DE.call_of_iso {g:Nat} {args:List DE.D} {c:Bool} (h:DE.isoCall (DE.call DE.dp) g args=some (.b c)) (hs:DE.stripL args=args):∃ S',DE.call DE.dp g args []=some (.b c,S'):=by
 simp only [DE.isoCall] at h
 rw [hs] at h
 cases hc:DE.call DE.dp g args [] with
 | none=>rw [hc] at h;split at h <;> cases h
 | some p=>
  obtain ⟨d,S'⟩:=p
  rw [hc] at h
  simp only at h
  split at h
  ·split at h
   ·injection h with h
    exact ⟨S',by rw [DE.stripT_b_inv h]⟩
   ·cases h
  ·cases h
theorem probabilityDiagrams_types:([25,26].all fun t=>Tryz.prog.readableRec t&&decide (t < Tryz.prog.types.size))=true:=by kernel_rfl
theorem probabilityDiagrams_lifted (os:Os) (started:os.Started) (H:Type) (enc:TypeId × Value→H) :
  ReturnsInHanded {} Tryz.checked os 3 .any (fun w args=>(Rows.probabilityDiagramsSpec.pre enc Tryz.prog Tryz.f3 Rows.probabilityDiagramsRow.domain false w args∧laidMetH Tryz.prog Rows.probabilityDiagramsRow.laid w)∧sizedMet enc Tryz.prog Tryz.f3 (OpenSpec.ofChange Rows.probabilityDiagramsSpec) false w args)
   (Rows.probabilityDiagramsSpec.post enc Tryz.prog Tryz.f3 false true false false):=by
 refine returnsInHanded_of_change_and (C:=Tryz.checked) (X:=fun w _=>laidMetH Tryz.prog Rows.probabilityDiagramsRow.laid w) (fun _ _ _ hh h=>h.of_heap hh) Tryz.own started (by kernel_rfl) Tryz.func3
  (ChangeSpec.witness_shaped (enc:=enc) (C:=Tryz.checked) (os:=os) (X:=fun w _=>laidMetH Tryz.prog Rows.probabilityDiagramsRow.laid w) false (World.laidAll Tryz.prog os Rows.probabilityDiagramsRow.laid) #[.agg #[.slice none 0 0,.slice none 0 0,.int .i64 0],.slice none 0 0] 8 (World.laidAll_os _ _ _)
   (World.shaped_of_ZipB (by kernel_rfl) (by kernel_rfl)) (by kernel_rfl) (by kernel_rfl) (by kernel_rfl)
   (by rw [MakeChecks.laidMetH_plain _ _ _ (by kernel_rfl)];exact laidMet_laidAll _ (by kernel_rfl) (by kernel_rfl))) ?_
 intro W base args ds gs before hval0 hW hc hweigh hL _
 have hval:∀ (j:Nat) t v,Tryz.f3.params[j]? = some t→args[j]? = some v→Value.okWide Tryz.prog W .any base t v:=hval0
 have hW':=hW
 obtain ⟨p,q,hA0,hV,rfl,_,_⟩:=hW
 have hA:DataW.TrodAll enc Tryz.prog W 0 (fun _=>true) true Tryz.f3.params.toList args.toList ds p:=hA0
 have hA1:=hA
 rw [Tryz.params3] at hA hval
 obtain ⟨v0,v1,d0,d1,p0,p1,rfl,rfl,rfl,h0,h1⟩:=trodAll_two hA
 obtain ⟨rfl,rfl⟩:=trodVars_none hV
 simp only [List.append_nil] at hW'
 obtain ⟨n0,m0,o0,x0,r0,g0,g0',ko0,kx0,kr0,zo0,zx0,R0⟩:=DE.V.rd_bdd (dp:=DE.dp) (hval 0 25 v0 rfl rfl) h0
 obtain ⟨n1,l1,g1,k1,z1,R1⟩:=DE.V.rd_chsArg (dp:=DE.dp) (hval 1 26 v1 rfl rfl) h1
 obtain ⟨S',hcall⟩:=DE.call_of_iso (DE.V.law3 n0 m0 n1 o0 x0 r0 l1 g0 (fun c hc=>⟨(k1 c hc).2.2.1,(k1 c hc).2.2.2,(k1 c hc).1,(k1 c hc).2.1⟩) z1) rfl
 refine DE.sound 3 DE.d3 _ [] _ S' rfl hcall (DE.V.there W) [] W #[v0,v1] (DE.V.sim0 W) ⟨rfl,?_⟩ _ ?_
 ·intro j v d hv hd
  match j with
  | 0=>simp at hv hd;subst hv hd;exact R0
  | 1=>simp at hv hd;subst hv hd;exact R1
  | j+2=>simp at hv
 ·intro v W' F' G' _ hE hR
  cases hR
  have hb:=below_ext hE
  refine ⟨_,rfl,_,_,_,[],_,[],hW',trodAll_mk1 (shut_bool Tryz.underlying4 _),trodAll_below hb _ _ _ _ ?_ hA1 (fun x hx=>by simpa using hW'.lt x hx),rfl,hb.frame _,fun h=>by cases h⟩
  intro t ht
  rw [Tryz.params3] at ht
  have:=List.all_eq_true.1 probabilityDiagrams_types t (by simpa using ht)
  simpa using this
end Go.Proofs.YtjniafcnjbbomaaGreatDoor
