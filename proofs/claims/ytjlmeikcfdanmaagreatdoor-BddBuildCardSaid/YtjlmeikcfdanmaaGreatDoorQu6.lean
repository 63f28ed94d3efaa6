/-
  SEVERAL TEXTS IN ONE (joined by tools/assemble.py of this repository): Bh, Vp, Vl, Vf, Vb8, Wb, Wc, Wd, Bi.
-/
import Derived.Test.YtjlmeikcfdanmaaGreatDoorQu5
import Derived.KernelRfl
set_option linter.unusedVariables false
set_option linter.unusedSimpArgs false
namespace Go.Proofs.YtjlmeikcfdanmaaGreatDoor.DE.V
open Go BT
set_option linter.unusedSimpArgs false
set_option linter.unusedVariables false
def TstsR {α:Type} (e:α→D) (ok:α→Prop) (T:α→Bool):Prop:=∀ a,ok a→isoCall (call dp) 68 [e a]=some (.b (T a))
set_option maxHeartbeats 1000000 in
theorem v68s {α:Type} {e:α→D} {ok:α→Prop} {T:α→Bool} (he:GE e) (H:TstsR e ok T):TstsR (eAn e) (OkAn ok) (teAn T):=by
 intro x hx
 apply i68 _ _ (by simp [noRefL,noRef_eAn he]) rfl
 generalize hR:teAn T x=R
 simp only [s68,strip_eAn]
 let J:Nat→List D→Store→Prop:=fun q fr S=>∃ k b2 b4 b5 b6 b10 b20 b39,fr=mkf 48 [(0,eAn e x),(2,b2),(3,.i .i64 (k:Nat)),(4,b4),(5,b5),(6,b6),(10,b10),(20,b20),(39,b39)]∧k+q=x.ts.length∧R=(x.ts.drop k).any (teTm T)
 refine W_loop J ?_ x.ts.length _ _ ⟨0,_,_,_,_,_,_,_,rfl,by simp,hR.symm⟩
 intro q fr S hJ;obtain ⟨k,b2,b4,b5,b6,b10,b20,b39,hfr,hk,hv⟩:=hJ;rw [hfr]
 rw [←wp_W,e68_2]
 simp [s68_2]
 split
 ·rename_i h
  obtain ⟨t,ht⟩:=get_lt (l:=x.ts) (k:=k) (by omega)
  have hot:=hx.ts t (List.mem_of_getElem? ht)
  rw [drop_get ht,List.any_cons] at hv
  let J2:Nat→List D→Store→Prop:=fun q fr S=>∃ i b2 b5 b6 b10 b20 b39,fr=mkf 48 [(0,eAn e x),(2,b2),(3,.i .i64 (k:Nat)),(4,.i .i64 (i:Nat)),(5,b5),(6,b6),(10,b10),(20,b20),(39,b39)]∧i+q=t.fs.length∧R=((t.fs.drop i).any (teFc T) || (x.ts.drop (k+1)).any (teTm T))
  refine W_loop J2 ?_ t.fs.length _ _ ⟨0,_,_,_,_,_,_,rfl,by simp,hv⟩
  intro q2 fr S hJ;obtain ⟨i,b2,b5,b6,b10,b20,b39,hfr,hi,hv2⟩:=hJ;rw [hfr]
  rw [←wp_W,e68_1]
  simp [s68_1,iaD_eAn e _ ht]
  split
  ·rename_i h2
   obtain ⟨f,hf⟩:=get_lt (l:=t.fs) (k:=i) (by omega)
   have hof:=hot.fs f (List.mem_of_getElem? hf)
   rw [drop_get hf,List.any_cons] at hv2
   have hfc:teFc T f=(decide (f.kind=4) || f.args.any T):=rfl
   obtain ⟨id,hid⟩:∃ id,id=S.length:=⟨_,rfl⟩
   by_cases k4:f.kind=4
   ·simp only [hfc,k4,decide_true,Bool.true_or] at hv2
    simp [iaD_eFcs e _ hf,k4,hv2]
   ·simp only [hfc,k4,decide_false,Bool.false_or,Bool.or_assoc] at hv2
    simp [iaD_eFcs e _ hf,k4]
    rw [←hid]
    let J3:Nat→List D→Store→Prop:=fun q fr S=>∃ j b2 b10 b20 b39,fr=mkf 48 [(0,eAn e x),(2,b2),(3,.i .i64 (k:Nat)),(4,.i .i64 (i:Nat)),(5,.bx id 0),(6,.i .i64 (j:Nat)),(10,b10),(20,b20),(39,b39)]∧j+q=f.args.length∧R=((f.args.drop j).any T || ((t.fs.drop (i+1)).any (teFc T) || (x.ts.drop (k+1)).any (teTm T)))∧sget S id=some (.box (eAt e f))
    refine W_loop J3 ?_ f.args.length _ _ ⟨0,_,_,_,_,rfl,by simp,hv2,by simp [hid]⟩
    intro q3 fr S hJ;obtain ⟨j,b2,b10,b20,b39,hfr,hj,hv3,hS⟩:=hJ;rw [hfr]
    rw [←wp_W,e68_0]
    simp [s68_0,hS]
    split
    ·rename_i h3
     obtain ⟨a,ha⟩:=get_lt (l:=f.args) (k:=j) (by omega)
     have hc:=H a (hof.args a (List.mem_of_getElem? ha))
     rw [drop_get ha,List.any_cons,Bool.or_assoc] at hv3
     cases hT:T a with
     | true=>
      rw [hT] at hc hv3
      simp only [Bool.true_or] at hv3
      simp [hS,iaD_eArgs e _ ha,hc,hv3]
     | false=>
      rw [hT] at hc hv3
      simp only [Bool.false_or] at hv3
      simp [hS,iaD_eArgs e _ ha,hc]
      rw [wrapL h3 hof.alen]
      exact ⟨q3-1,by omega,⟨j+1,_,_,_,_,rfl,by omega,hv3,hS⟩⟩
    ·rw [List.drop_eq_nil_of_le (show f.args.length≤j by omega),List.any_nil,Bool.false_or] at hv3
     simp [e68_r0,s68_r0]
     rw [wrapL h2 hot.len]
     exact ⟨q2-1,by omega,⟨i+1,_,_,_,_,_,_,rfl,by omega,hv3⟩⟩
  ·rw [List.drop_eq_nil_of_le (show t.fs.length≤i by omega),List.any_nil,Bool.false_or] at hv2
   simp [e68_r1,s68_r1]
   rw [wrapL h hx.len]
   exact ⟨q-1,by omega,⟨k+1,_,_,_,_,_,_,_,rfl,by omega,hv2⟩⟩
 ·rw [List.drop_eq_nil_of_le (show x.ts.length≤k by omega),List.any_nil] at hv
  simp [e68_r2,s68_r2,hv]
theorem v68:∀ n,TstsR (eAnn n) (OkAnn n) (teAnn n)
 | 0=>fun x=>nomatch x
 | n+1=>v68s (GE_eAnn n) (v68 n)
theorem slc_take {nl:Bool} {l:List Row} {i:Nat} (h:i≤l.length):slcD 2 (eRows nl l) none (some (.i .i64 (i:Nat)))=some (eRows nl (l.take i)):=by
 simp only [slcD,eRows,if_true,bounds,List.length_map]
 rw [if_pos ⟨by omega,by omega⟩]
 simp
theorem slc_drop {nl:Bool} {l:List Row} {i:Nat} (h:i≤l.length):slcD 2 (eRows nl l) (some (.i .i64 (i:Nat))) none=some (eRows nl (l.drop i)):=by
 simp only [slcD,eRows,if_true,bounds,List.length_map]
 rw [if_pos ⟨by omega,by omega⟩]
 simp only [Int.toNat_natCast]
 rw [List.take_of_length_le (by simp)]
 simp
def PutP (l:List Row) (r:Row) (d:D):Prop:=∃ nl' l',d=eRows nl' l'∧(∀ q,q∈l'↔q∈l∨q=r)∧l'.length≤l.length+1
theorem v111 (nl:Bool) (l:List Row) (r:Row) (hl:l.length≤1000):∃ nl' l',isoCall (call dp) 111 [eRows nl l,.agg (eRow r)]=some (eRows nl' l')∧(∀ q,q∈l'↔q∈l∨q=r)∧l'.length≤l.length+1:=by
 suffices hh:∃ d,isoCall (call dp) 111 [eRows nl l,.agg (eRow r)]=some d∧PutP l r d by
  obtain ⟨d,h1,nl',l',rfl,h2⟩:=hh
  exact ⟨nl',l',h1,h2⟩
 apply j111 _ _ _ (by simp [noRefL]) (by rintro d ⟨nl',l',rfl,_⟩;simp)
 simp [s111]
 let J:Nat→List D→Store→Prop:=fun q fr S=>∃ i b4 b18,fr=mkf 46 [(0,eRows nl l),(3,.bx 0 0),(4,b4),(5,.i .i64 (i:Nat)),(18,b18)]∧i+q=l.length∧S=[Ent.box (eRow r)]
 refine W_loop J ?_ l.length _ _ ⟨0,_,_,rfl,by simp,rfl⟩
 intro q fr S hJ;obtain ⟨i,b4,b18,hfr,hi,hS⟩:=hJ;rw [hfr]
 subst hS
 rw [←wp_W,e111_0]
 have fin:∀ b18:D,wp (call dp) c111_r0 (mkf 46 [(0,eRows nl l),(3,.bx 0 0),(4,b4),(5,.i .i64 (i:Nat)),(18,b18)]) [Ent.box (eRow r)] (FinK [.t 4] fun d _=>PutP l r (stripT d)):=by
  intro b18
  have s1:=slc_take (nl:=nl) (l:=l) (i:=i) (by omega)
  have s2:=slc_drop (nl:=nl) (l:=l) (i:=i) (by omega)
  have hmem:∀ q,q∈l↔q∈l.take i∨q∈l.drop i:=fun q=>by rw [←List.mem_append,List.take_append_drop]
  have hlen:(l.take i).length+(l.drop i).length=l.length:=by rw [List.length_take,List.length_drop];omega
  generalize l.take i=A at *
  generalize l.drop i=B at *
  obtain ⟨XA,hXA⟩:∃ XA,XA=A.map eRow:=⟨_,rfl⟩
  obtain ⟨XB,hXB⟩:∃ XB,XB=B.map eRow:=⟨_,rfl⟩
  have lA:XA.length=A.length:=by rw [hXA];simp
  have lB:XB.length=B.length:=by rw [hXB];simp
  have eA:eRows nl A = .sl 2 nl XA .ro:=by rw [hXA];rfl
  have eB:eRows nl B = .sl 2 nl XB .ro:=by rw [hXB];rfl
  rw [eA] at s1
  rw [eB] at s2
  have done:∀ k,PutP l r (stripT (.sl 2 false (XA++[eRow r]++XB) (.tok k))):=by
   intro k
   refine ⟨false,A++[r]++B,?_,?_,by simp;omega⟩
   ·rw [hXA,hXB]
    show D.sl 2 false _ .ro=_
    simp [eRows]
   ·intro q
    rw [hmem q]
    simp only [List.mem_append,List.mem_singleton]
    constructor
    ·rintro ((h | h) | h)
     ·exact .inl (.inl h)
     ·exact .inr h
     ·exact .inl (.inr h)
    ·rintro ((h | h) | h)
     ·exact .inl (.inl h)
     ·exact .inr h
     ·exact .inl (.inr h)
  have same:r∈l→PutP l r (eRows nl l):=fun hr=>⟨nl,l,rfl,fun q=>⟨.inl,fun h=>h.elim id (fun e=>e ▸ hr)⟩,by omega⟩
  have puts:∃ p:D × Store,appD 2 false (.sl 2 false [] .cap0) (.sl 2 nl XA .ro) [Ent.box (eRow r)]=some p∧sget p.2 0=some (.box (eRow r))∧∃ p2:D × Store,appD 2 false p.1 (.sl 2 false [eRow r] .ro) p.2=some p2∧∃ p3:D × Store,appD 2 false p2.1 (.sl 2 nl XB .ro) p2.2=some p3∧PutP l r (stripT p3.1):=by
   by_cases hn:XA=[]
   ·refine ⟨_,app_cap0 _ (by rw [hn];simp [maxLenD]),?_,?_⟩
    ·rw [if_pos hn];rfl
    ·rw [if_pos hn]
     refine ⟨_,app_cap0 _ (by simp [maxLenD]),?_⟩
     rw [if_neg (by simp)]
     refine ⟨_,app_tok (t:=1) _ (by simp [maxLenD];omega) rfl,?_⟩
     have:=done 2
     rw [hn,List.nil_append] at this
     exact this
   ·refine ⟨_,app_cap0 _ (by simp only [maxLenD];omega),?_,?_⟩
    ·rw [if_neg hn];rfl
    ·rw [if_neg hn]
     refine ⟨_,app_tok (t:=1) _ (by simp [maxLenD];omega) rfl,?_⟩
     refine ⟨_,app_tok (t:=2) _ (by simp [maxLenD];omega) rfl,?_⟩
     exact done _
  obtain ⟨p,q1,q2,p2,q3,p3,q4,q5⟩:=puts
  rw [e111_r0]
  by_cases hil:i<l.length
  ·obtain ⟨x,hx⟩:=get_lt hil
   by_cases hxr:x=r
   ·simp [s111_r0,hil,iaD_rows _ hx,hxr]
    exact same (hxr ▸ List.mem_of_getElem? hx)
   ·simp [s111_r0,hil,iaD_rows _ hx,hxr,s1,s2,q1,q2,q3,q4]
    exact q5
  ·simp [s111_r0,hil,s1,s2,q1,q2,q3,q4]
   exact q5
 by_cases hil:i<l.length
 ·obtain ⟨x,hx⟩:=get_lt hil
  have e170:=v170 x r
  by_cases hlt:orL [cmpI x.1 r.1,cmpI x.2 r.2]<0
  ·simp [s111_0,hil,iaD_rows _ hx,e170,hlt]
   rw [wrapS (k:=i) (by unfold Bd;omega)]
   exact ⟨q-1,by omega,⟨i+1,_,_,rfl,by omega,rfl⟩⟩
  ·simp [s111_0,hil,iaD_rows _ hx,e170,hlt]
   exact fin _
 ·simp [s111_0,hil]
  exact fin _
theorem v111' (nl:Bool) (l:List Row) (o:Own) (r:Row) (hl:l.length≤1000):∃ nl' l',isoCall (call dp) 111 [.sl 2 nl (l.map eRow) o,.agg (eRow r)]=some (eRows nl' l')∧(∀ q,q∈l'↔q∈l∨q=r)∧l'.length≤l.length+1:=by
 obtain ⟨a,b,c,d⟩:=v111 nl l r hl
 exact ⟨a,b,by rw [isoCall_strip] at c ⊢;exact c,d⟩
def RwsP (l m:List Row) (d:D):Prop:=∃ nl' l',d=eRows nl' l'∧(∀ q,q∈l'↔q∈l∨q∈m)∧l'.length≤l.length+m.length
theorem v112 (nl nl':Bool) (l m:List Row) (hl:l.length+m.length≤1000):∃ nn L,isoCall (call dp) 112 [eRows nl l,eRows nl' m]=some (eRows nn L)∧(∀ q,q∈L↔q∈l∨q∈m)∧L.length≤l.length+m.length:=by
 suffices hh:∃ d,isoCall (call dp) 112 [eRows nl l,eRows nl' m]=some d∧RwsP l m d by
  obtain ⟨d,h1,nn,L,rfl,h2⟩:=hh
  exact ⟨nn,L,h1,h2⟩
 apply j112 _ _ _ (by simp [noRefL]) (by rintro d ⟨nn,L,rfl,_⟩;simp)
 simp [s112]
 let J:Nat→List D→Store→Prop:=fun q fr S=>∃ i nn L b4 b9,fr=mkf 19 [(0,eRows nn L),(1,eRows nl' m),(4,b4),(5,.i .i64 (i:Nat)),(9,b9)]∧i+q=m.length∧(∀ r,r∈L↔r∈l∨r∈m.take i)∧List.length L≤l.length+i
 refine W_loop J ?_ m.length _ _ ⟨0,nl,l,_,_,rfl,by simp,by simp,by omega⟩
 intro q fr S hJ;obtain ⟨i,nn,L,b4,b9,hfr,hi,hm,hl⟩:=hJ;rw [hfr]
 rw [←wp_W,e112_0]
 simp [s112_0]
 split
 ·rename_i h
  obtain ⟨r,hr⟩:=get_lt (l:=m) (k:=i) (by omega)
  obtain ⟨n2,L2,c,h1,h2⟩:=v111 nn L r (by omega)
  simp [iaD_rows _ hr,c]
  rw [wrapS (k:=i) (by unfold Bd;omega)]
  refine ⟨q-1,by omega,⟨i+1,n2,L2,_,_,rfl,by omega,fun q'=>?_,by omega⟩⟩
  rw [h1,hm,take_snoc hr,List.mem_append,List.mem_singleton]
  constructor
  ·rintro ((h | h) | h)
   ·exact .inl h
   ·exact .inr (.inl h)
   ·exact .inr (.inr h)
  ·rintro (h | h | h)
   ·exact .inl (.inl h)
   ·exact .inl (.inr h)
   ·exact .inr h
 ·rename_i h
  rw [List.take_of_length_le (by omega)] at hm
  simp [e112_r0,s112_r0]
  exact ⟨nn,L,rfl,hm,by omega⟩
theorem v112' (nl:Bool) (l:List Row) (o:Own) (nl':Bool) (m:List Row) (hl:l.length+m.length≤1000):∃ nn L,isoCall (call dp) 112 [.sl 2 nl (l.map eRow) o,eRows nl' m]=some (eRows nn L)∧(∀ q,q∈L↔q∈l∨q∈m)∧L.length≤l.length+m.length:=by
 obtain ⟨a,b,c,d⟩:=v112 nl nl' l m hl
 exact ⟨a,b,by rw [isoCall_strip] at c ⊢;exact c,d⟩
def SetOk (L M:List Row):Prop:=(∀ r,r∈L↔r∈M)∧L.length≤M.length
theorem SetOk.put {L M L':List Row} {r:Row} (h:SetOk L M) (h1:∀ q,q∈L'↔q∈L∨q=r) (h2:L'.length≤L.length+1):SetOk L' (M++[r]):=
 ⟨fun q=>by rw [h1,h.1];simp,by have:=h.2;simp;omega⟩
theorem SetOk.rows {L M L' B N:List Row} (h:SetOk L M) (k:SetOk B N) (h1:∀ q,q∈L'↔q∈L∨q∈B) (h2:L'.length≤L.length+B.length):SetOk L' (M++N):=
 ⟨fun q=>by rw [h1,h.1,k.1];simp,by have:=h.2;have:=k.2;simp;omega⟩
def VarP (M:List Row) (d:D):Prop:=∃ nl L,d=eRows nl L∧SetOk L M
def VarsR {α:Type} (e:α→D) (ok:α→Prop) (v:α→List Row):Prop:=∀ a,ok a→(v a).length≤1000→∃ nl L,isoCall (call dp) 69 [e a]=some (eRows nl L)∧SetOk L (v a)
set_option maxHeartbeats 1000000 in
theorem v69s {α:Type} {e:α→D} {ok:α→Prop} {v:α→List Row} (he:GE e) (H:VarsR e ok v):VarsR (eAn e) (OkAn ok) (vaAn v):=by
 intro x hx hlen
 suffices hh:∃ d,isoCall (call dp) 69 [eAn e x]=some d∧VarP (vaAn v x) d by
  obtain ⟨d,h1,nl,L,rfl,h2⟩:=hh
  exact ⟨nl,L,h1,h2⟩
 apply j69 _ _ (by simp [noRefL,noRef_eAn he]) (by rintro d ⟨nl,L,rfl,_⟩;simp)
 simp only [s69,strip_eAn,cellsV_nil,OX_some,bslO_nil]
 let J:Nat→List D→Store→Prop:=fun q fr S=>∃ k nn L o b2 b5 b6 b7 b8 b13 b23 b46 b61,fr=mkf 74 [(0,eAn e x),(2,b2),(3,.sl 2 nn (List.map eRow L) o),(4,.i .i64 (k:Nat)),(5,b5),(6,b6),(7,b7),(8,b8),(13,b13),(23,b23),(46,b46),(61,b61)]∧k+q=x.ts.length∧SetOk L (flT (vaTm v) x.ts k)
 refine W_loop J ?_ x.ts.length _ _ ⟨0,false,[],.cap0,_,_,_,_,_,_,_,_,_,rfl,by simp,⟨fun r=>by simp [flT],by simp⟩⟩
 intro q fr S hJ;obtain ⟨k,nn,L,o,b2,b5,b6,b7,b8,b13,b23,b46,b61,hfr,hk,hs⟩:=hJ;rw [hfr]
 rw [←wp_W,e69_3]
 simp [s69_3]
 split
 ·rename_i h
  obtain ⟨t,ht⟩:=get_lt (l:=x.ts) (k:=k) (by omega)
  have hot:=hx.ts t (List.mem_of_getElem? ht)
  have hz:=flT_len (vaTm v) ht
  have hz':(x.ts.flatMap (vaTm v)).length=(vaAn v x).length:=rfl
  obtain ⟨M,hM⟩:∃ M,M=flT (vaTm v) x.ts k:=⟨_,rfl⟩
  rw [←hM] at hs hz
  let J2:Nat→List D→Store→Prop:=fun q fr S=>∃ i nn L o b2 b6 b7 b8 b13 b23 b46 b61,fr=mkf 74 [(0,eAn e x),(2,b2),(3,.sl 2 nn (List.map eRow L) o),(4,.i .i64 (k:Nat)),(5,.i .i64 (i:Nat)),(6,b6),(7,b7),(8,b8),(13,b13),(23,b23),(46,b46),(61,b61)]∧i+q=t.fs.length∧SetOk L (M++flT (vaFc v) t.fs i)
  refine W_loop J2 ?_ t.fs.length _ _ ⟨0,nn,L,o,_,_,_,_,_,_,_,_,rfl,by simp,by simpa [flT] using hs⟩
  intro q2 fr S hJ;obtain ⟨i,nn,L,o,b2,b6,b7,b8,b13,b23,b46,b61,hfr,hi,hs2⟩:=hJ;rw [hfr]
  rw [←wp_W,e69_2]
  simp [s69_2,iaD_eAn e _ ht]
  split
  ·rename_i h2
   obtain ⟨f,hf⟩:=get_lt (l:=t.fs) (k:=i) (by omega)
   have hof:=hot.fs f (List.mem_of_getElem? hf)
   have hz2:=flT_len (vaFc v) hf
   have hz2':(t.fs.flatMap (vaFc v)).length=(vaTm v t).length:=rfl
   obtain ⟨K0,hK0⟩:∃ K0:List Row,K0=if f.kind=0 then [f.row] else []:=⟨_,rfl⟩
   have hz3:(vaFc v f).length=K0.length+((f.args.flatMap v).length+(f.items.flatMap (vaIt v)).length):=by rw [vaFc,←hK0];simp
   obtain ⟨id,hid⟩:∃ id,id=S.length:=⟨_,rfl⟩
   obtain ⟨M2,hM2⟩:∃ M2,M2=M++flT (vaFc v) t.fs i++K0:=⟨_,rfl⟩
   have hM2l:M2.length=M.length+(flT (vaFc v) t.fs i).length+K0.length:=by rw [hM2];simp only [List.length_append]
   have hs2l:=hs2.2
   have body:∀ nn L o b23,SetOk L M2→W (call dp) (.loop [] c69_1) (mkf 74 [(0,eAn e x),(2,b2),(3,.sl 2 nn (List.map eRow L) o),(4,.i .i64 (k:Nat)),(5,.i .i64 (i:Nat)),(6,.bx id 0),(7,.i .i64 0),(8,b8),(13,b13),(23,b23),(46,b46),(61,b61)]) (Ent.box (eAt e f)::S)
     (Qblk 4 (QS (call dp) c69_r0 (Qblk 3 (QS (call dp) c69_r1 (Qseq (fun fr' S'=>∃ m',m'<q2∧J2 m' fr' S') (Qblk 2 (Qblk 1 (QS (call dp) c69_r2 (Qseq (fun fr' S'=>∃ m',m'<q∧J m' fr' S') (Qblk 0 (QS (call dp) c69_r3 (FinK [.t 2] fun d _=>VarP (vaAn v x) (stripT d))))))))))))):=by
    intro nn L o b23 hsL
    let J3:Nat→List D→Store→Prop:=fun q fr S=>∃ j nn L o b2 b8 b13 b23 b46 b61,fr=mkf 74 [(0,eAn e x),(2,b2),(3,.sl 2 nn (List.map eRow L) o),(4,.i .i64 (k:Nat)),(5,.i .i64 (i:Nat)),(6,.bx id 0),(7,.i .i64 (j:Nat)),(8,b8),(13,b13),(23,b23),(46,b46),(61,b61)]∧j+q=f.args.length∧SetOk L (M2++flT v f.args j)∧sget S id=some (.box (eAt e f))
    refine W_loop J3 ?_ f.args.length _ _ ⟨0,nn,L,o,_,_,_,_,_,_,rfl,by simp,by simpa [flT] using hsL,by simp [hid]⟩
    intro q3 fr S hJ;obtain ⟨j,nn,L,o,b2,b8,b13,b23,b46,b61,hfr,hj,hs3,hS⟩:=hJ;rw [hfr]
    rw [←wp_W,e69_1]
    simp [s69_1,hS]
    split
    ·rename_i h3
     obtain ⟨a,ha⟩:=get_lt (l:=f.args) (k:=j) (by omega)
     have hz4:=flT_len v ha
     have hl3:=hs3.2
     simp only [List.length_append] at hl3 hs2l
     obtain ⟨n4,B,c1,k1⟩:=H a (hof.args a (List.mem_of_getElem? ha)) (by omega)
     have hB:=k1.2
     obtain ⟨n5,L5,c2,k2,k3⟩:=v112' nn L o n4 B (by omega)
     simp [iaD_eArgs e _ ha,c1,c2]
     rw [wrapL h3 hof.alen]
     exact ⟨q3-1,by omega,⟨j+1,n5,L5,.ro,_,_,_,_,_,_,rfl,by omega,by rw [flT_succ _ ha,←List.append_assoc];exact hs3.rows k1 k2 k3,hS⟩⟩
    ·have hje:=flT_all v (show f.args.length≤j by omega)
     rw [hje] at hs3
     simp [e69_r0,s69_r0]
     obtain ⟨M3,hM3⟩:∃ M3,M3=M2++f.args.flatMap v:=⟨_,rfl⟩
     have hM3l:M3.length=M2.length+(f.args.flatMap v).length:=by rw [hM3];simp only [List.length_append]
     rw [←hM3] at hs3
     let J4:Nat→List D→Store→Prop:=fun q fr S=>∃ j nn L o b2 b7 b13 b23 b46 b61,fr=mkf 74 [(0,eAn e x),(2,b2),(3,.sl 2 nn (List.map eRow L) o),(4,.i .i64 (k:Nat)),(5,.i .i64 (i:Nat)),(6,.bx id 0),(7,b7),(8,.i .i64 (j:Nat)),(13,b13),(23,b23),(46,b46),(61,b61)]∧j+q=f.items.length∧SetOk L (M3++flT (vaIt v) f.items j)∧sget S id=some (.box (eAt e f))
     refine W_loop J4 ?_ f.items.length _ _ ⟨0,nn,L,o,_,_,_,_,_,_,rfl,by simp,by simpa [flT] using hs3,hS⟩
     intro q4 fr S hJ;obtain ⟨j,nn,L,o,b2,b7,b13,b23,b46,b61,hfr,hj,hs4,hS4⟩:=hJ;rw [hfr]
     rw [←wp_W,e69_0]
     simp [s69_0,hS4]
     split
     ·rename_i h4
      obtain ⟨p,hp⟩:=get_lt (l:=f.items) (k:=j) (by omega)
      have hz5:=flT_len (vaIt v) hp
      have hz5':(vaIt v p).length=(v p.2).length:=rfl
      have hl4:=hs4.2
      simp only [List.length_append] at hl4 hs2l
      obtain ⟨n4,B,c1,k1⟩:=H p.2 (hof.items p (List.mem_of_getElem? hp)).2 (by omega)
      have hB:=k1.2
      obtain ⟨n5,L5,c2,k2,k3⟩:=v112' nn L o n4 B (by omega)
      simp [iaD_eItems e _ hp,c1,c2]
      rw [wrapL h4 hof.ilen]
      exact ⟨q4-1,by omega,⟨j+1,n5,L5,.ro,_,_,_,_,_,_,rfl,by omega,by rw [flT_succ _ hp,←List.append_assoc];exact hs4.rows k1 k2 k3,hS4⟩⟩
     ·have hje:=flT_all (vaIt v) (show f.items.length≤j by omega)
      rw [hje] at hs4
      simp [e69_r1,s69_r1]
      rw [wrapL h2 hot.len]
      refine ⟨q2-1,by omega,⟨i+1,nn,L,o,_,_,_,_,_,_,_,_,rfl,by omega,?_⟩⟩
      rw [flT_succ _ hf,vaFc,←hK0]
      rw [hM3,hM2] at hs4
      simpa only [List.append_assoc] using hs4
   by_cases k0:f.kind=0
   ·rw [if_pos k0] at hK0
    simp only [List.length_append] at hs2l
    have hK1:K0.length=1:=by rw [hK0];rfl
    obtain ⟨n5,L5,c1,k1,k2⟩:=v111' nn L o f.row (by omega)
    simp [iaD_eFcs e _ hf,k0,jn,c1]
    rw [←hid]
    exact body n5 L5 .ro _ (by rw [hM2,hK0];exact hs2.put k1 k2)
   ·rw [if_neg k0] at hK0
    simp [iaD_eFcs e _ hf,k0,jn]
    rw [←hid]
    exact body nn L o _ (by rw [hM2,hK0,List.append_nil];exact hs2)
  ·have hje:=flT_all (vaFc v) (show t.fs.length≤i by omega)
   rw [hje] at hs2
   simp [e69_r2,s69_r2]
   rw [wrapL h hx.len]
   refine ⟨q-1,by omega,⟨k+1,nn,L,o,_,_,_,_,_,_,_,_,_,rfl,by omega,?_⟩⟩
   rw [flT_succ _ ht,←hM]
   exact hs2
 ·have hje:=flT_all (vaTm v) (show x.ts.length≤k by omega)
  rw [hje] at hs
  simp only [e69_r3,s69_r3,Qblk_same,QS_normal,FinK_ret1]
  simp
  exact ⟨nn,L,rfl,hs⟩
theorem v69:∀ n,VarsR (eAnn n) (OkAnn n) (vaAnn n)
 | 0=>fun x=>nomatch x
 | n+1=>v69s (GE_eAnn n) (v69 n)
end Go.Proofs.YtjlmeikcfdanmaaGreatDoor.DE.V

namespace Go.Proofs.YtjlmeikcfdanmaaGreatDoor.DE.V
open Go BT
open Classical in
theorem v93 (nl:Bool) (n v b:Nat) (h7:n≤7) (hv:v≤n) (hb:b<2 ^ v) (f:(Nat→Bool)→Bool) :
  isoCall (call dp) 93 [eBools nl (tabOf n f),.i .i64 n,.i .i64 v,.i .i64 b]=some (.b (decide (∀ x,x<2 ^ n→x % 2 ^ v=b→f (bitsA x)=f (bitsA b)))):=by
 have hp:=pow7 h7
 have hvn:2 ^ v≤2 ^ n:=Nat.pow_le_pow_right (by omega) hv
 have hbn:b<2 ^ n:=by omega
 obtain ⟨c,hc⟩:∃ c,c=decide (∀ x,x<2 ^ n→x % 2 ^ v=b→f (bitsA x)=f (bitsA b)):=⟨_,rfl⟩
 rw [←hc]
 apply i93 _ _ _ _ _ (by simp [noRefL,noRef]) rfl
 simp only [s93]
 let J:Nat→List D→Store→Prop:=fun q fr S=>∃ k a8 a13,k+q=2 ^ n∧(∀ x,x<k→x % 2 ^ v=b→f (bitsA x)=f (bitsA b)) ∧
  fr=mkf 33 [(0,eBools nl (tabOf n f)),(1,.i .i64 n),(2,.i .i64 v),(3,.i .i64 b),(8,a8),(9,.i .i64 k),(13,a13)]
 refine W_loop J ?_ (2 ^ n) _ _ ⟨0,_,_,by simp,fun x h=>by omega,rfl⟩
 rintro q fr S ⟨k,a8,a13,hk,hx,rfl⟩
 rw [←wp_W,e93_0]
 have hs1:=shl1 (n:=n) (by omega)
 have hs2:=shl1 (n:=v) (by omega)
 have hrem:=remN (a:=k) (b:=2 ^ v) (Nat.two_pow_pos _)
 by_cases h:k<2 ^ n
 ·have h':(k:Int)<((2 ^ n:Nat):Int):=by omega
  have ih:∀ d,(k % 2 ^ v=b→f (bitsA k)=f (bitsA b))→∃ m',m'<q∧J m' (mkf 33 [(0,eBools nl (tabOf n f)),(1,.i .i64 n),(2,.i .i64 v),(3,.i .i64 b),(8,a8),(9,.i .i64 ((k+1:Nat):Int)),(13,.top)]) d:=by
   intro d hd
   refine ⟨q-1,by omega,k+1,_,_,by omega,fun x hx1 hx2=>?_,rfl⟩
   by_cases e:x=k
   ·subst e;exact hd hx2
   ·exact hx x (by omega) hx2
  by_cases hm:k % 2 ^ v=b
  ·have hm':((k % 2 ^ v:Nat):Int)=(b:Int):=by omega
   simp only [s93_0,hs1,OX_some,bin_lss,h',decide_true,WB_true,OX_b,if_true,hs2,hrem,bin_eql,hm',gsel_tt,ia_bools (tabOf_get f h),ia_bools (tabOf_get f hbn),ldD_el,rdK_one,List.getElem?_cons_zero,bin_bneq]
   cases h1:f (bitsA k) <;> cases h2:f (bitsA b)
   ·simp [wrapS (show Bd k by unfold Bd;omega)]
    exact ih S (fun _=>by rw [h1,h2])
   ·have:c=false:=by rw [hc];exact decide_eq_false fun hh=>by have:=hh k h hm;rw [h1,h2] at this;cases this
    simp [this]
   ·have:c=false:=by rw [hc];exact decide_eq_false fun hh=>by have:=hh k h hm;rw [h1,h2] at this;cases this
    simp [this]
   ·simp [wrapS (show Bd k by unfold Bd;omega)]
    exact ih S (fun _=>by rw [h1,h2])
  ·have hm':¬((k % 2 ^ v:Nat):Int)=(b:Int):=by omega
   simp only [s93_0,hs1,OX_some,bin_lss,h',decide_true,WB_true,OX_b,if_true,hs2,hrem,bin_eql,hm',decide_false]
   simp [wrapS (show Bd k by unfold Bd;omega)]
   exact ih S (fun e=>absurd e hm)
 ·have h':¬(k:Int)<((2 ^ n:Nat):Int):=by omega
  have:c=true:=by rw [hc];exact decide_eq_true fun x h1 h2=>hx x (by omega) h2
  simp [-Int.natCast_pow,s93_0,hs1,h',e93_r0,s93_r0,this]
def Part (n:Nat) (f:(Nat→Bool)→Bool) (s:T):Prop:=∃ v b,v≤n∧b<2 ^ v∧s=subT n v b f
theorem parts_len {n:Nat} (h7:n≤7) {f:(Nat→Bool)→Bool} {M:List T} (hM:Cl M) (h:∀ s,s∈M→Part n f s):M.length≤1024:=by
 have:=nodup_len (L:=(List.range 8).flatMap fun v=>(List.range 128).map fun b=>subT n v b f) (Cl_nodup hM) (by
  intro s hs
  obtain ⟨v,b,hv,hb,rfl⟩:=h s hs
  have:2 ^ v≤128:=pow7 (by omega)
  exact List.mem_flatMap.2 ⟨v,List.mem_range.2 (by omega),List.mem_map.2 ⟨b,List.mem_range.2 (by omega),rfl⟩⟩)
 refine Nat.le_trans this ?_
 simp [List.length_flatMap]
 decide
theorem v53_leaf (nl:Bool) (n:Nat) (h7:n≤7) (f:(Nat→Bool)→Bool) (hd:Dep n 0 f) (v b:Nat) (M:List T) (m:Bool) (o:Own) (S:Store) (hv:v≤n) (hb:b<2 ^ v)
  (hc:∀ x,x<2 ^ n→x % 2 ^ v=b→f (bitsA x)=f (bitsA b)) :
  call dp 53 [eBools nl (tabOf n f),.i .i64 n,.i .i64 v,.i .i64 b,.sl 3 m ((nds M).map eNd) o] S =
    some (.tup [.i .i64 (code (post (subT n v b f) M) (subT n v b f)),.sl 3 m ((nds (post (subT n v b f) M)).map eNd) o],S):=by
 have hbn:b<2 ^ n:=Nat.lt_of_lt_of_le hb (Nat.pow_le_pow_right (by omega) hv)
 have hu:subT n v b f = .leaf (f (bitsA b)):=subT_const hd hv ((const_iff hd hv hb).1 hc)
 rw [hu]
 let P:D→Store→Prop:=fun r S'=>r = .tup [.i .i64 (code (post (.leaf (f (bitsA b))) M) (.leaf (f (bitsA b)))),.sl 3 m ((nds (post (.leaf (f (bitsA b))) M)).map eNd) o]∧S'=S
 obtain ⟨r,S',e,rfl,rfl⟩:=f53 (eBools nl (tabOf n f)) (.i .i64 n) (.i .i64 v) (.i .i64 b) (.sl 3 m ((nds M).map eNd) o) S P (by
  have e93:=v93 nl n v b h7 hv hb f
  rw [decide_eq_true hc] at e93
  cases hf:f (bitsA b) with
  | true=>simp [s53,e93,ia_bools (tabOf_get f hbn),hf];exact ⟨by rw [hf];rfl,rfl⟩
  | false=>simp [s53,e93,ia_bools (tabOf_get f hbn),hf];exact ⟨by rw [hf];rfl,rfl⟩)
 exact e
theorem v53 (nl:Bool) (n:Nat) (h7:n≤7) (f:(Nat→Bool)→Bool) (hd:Dep n 0 f):∀ (k v b:Nat) (M:List T) (m:Bool) (o:Own) (S:Store),n-v=k→v≤n→b<2 ^ v→Cl M→(∀ s,s∈M→Part n f s)→LivC S m M.length o →
  ∃ m' o' S',call dp 53 [eBools nl (tabOf n f),.i .i64 n,.i .i64 v,.i .i64 b,.sl 3 m ((nds M).map eNd) o] S =
    some (.tup [.i .i64 (code (post (subT n v b f) M) (subT n v b f)),.sl 3 m' ((nds (post (subT n v b f) M)).map eNd) o'],S') ∧
   LivC S' m' (post (subT n v b f) M).length o'∧(∀ s,s∈post (subT n v b f) M→Part n f s)∧Pres S S':=by
 intro k
 have leafc:∀ (v b:Nat) (M:List T) (m:Bool) (o:Own) (S:Store),v≤n→b<2 ^ v→(∀ s,s∈M→Part n f s)→LivC S m M.length o→(∀ x,x<2 ^ n→x % 2 ^ v=b→f (bitsA x)=f (bitsA b)) →
   ∃ m' o' S',call dp 53 [eBools nl (tabOf n f),.i .i64 n,.i .i64 v,.i .i64 b,.sl 3 m ((nds M).map eNd) o] S =
    some (.tup [.i .i64 (code (post (subT n v b f) M) (subT n v b f)),.sl 3 m' ((nds (post (subT n v b f) M)).map eNd) o'],S') ∧
   LivC S' m' (post (subT n v b f) M).length o'∧(∀ s,s∈post (subT n v b f) M→Part n f s)∧Pres S S':=by
  intro v b M m o S hv hb hP hl hc
  have e:=v53_leaf nl n h7 f hd v b M m o S hv hb hc
  have hu:subT n v b f = .leaf (f (bitsA b)):=subT_const hd hv ((const_iff hd hv hb).1 hc)
  have hp:post (subT n v b f) M=M:=by rw [hu];rfl
  exact ⟨m,o,S,e,by rw [hp];exact hl,by rw [hp];exact hP,Pres.refl _⟩
 induction k with
 | zero=>
  intro v b M m o S hk hv hb hM hP hl
  have:v=n:=by omega
  subst this
  exact leafc v b M m o S hv hb hP hl (fun x h1 h2=>by rw [Nat.mod_eq_of_lt h1] at h2;rw [h2])
 | succ k ih=>
  intro v b M m o S hk hv hb hM hP hl
  by_cases hc:∀ x,x<2 ^ n→x % 2 ^ v=b→f (bitsA x)=f (bitsA b)
  ·exact leafc v b M m o S hv hb hP hl hc
  have hvn:v<n:=by omega
  have hp7:=pow7 h7
  have hpv:2 ^ v≤128:=pow7 (by omega)
  have hstep:=subT_step (f:=f) hvn hb
  have hb1:b<2 ^ (v+1):=by rw [Nat.pow_succ];omega
  have hb2:b+2 ^ v<2 ^ (v+1):=by rw [Nat.pow_succ];omega
  have e93:=v93 nl n v b h7 hv hb f
  rw [decide_eq_false hc] at e93
  obtain ⟨m1,o1,S1,q1,l1,p1,r1⟩:=ih (v+1) b M m o S (by omega) (by omega) hb1 hM hP hl
  obtain ⟨N1,n1,c1,s1,_⟩:=post_facts hM (subT n (v+1) b f)
  obtain ⟨m2,o2,S2,q2,l2,p2,r2⟩:=ih (v+1) (b+2 ^ v) (post (subT n (v+1) b f) M) m1 o1 S1 (by omega) (by omega) hb2 c1 p1 l1
  obtain ⟨N2,n2,c2,s2,_⟩:=post_facts c1 (subT n (v+1) (b+2 ^ v) f)
  have hz2:=parts_len h7 c2 p2
  generalize hu0:subT n (v+1) b f=u0 at *
  generalize hu1:subT n (v+1) (b+2 ^ v) f=u1 at *
  rw [hstep]
  have hc0:code (post u0 M) u0=code (post u1 (post u0 M)) u0:=by rw [n2,code_app N2 s1]
  have s0:sub (post u1 (post u0 M)) u0:=by rw [n2];exact sub_app N2 s1
  have hpart:Part n f (mk v u0 u1):=by rw [←hstep];exact ⟨v,b,hv,hb,rfl⟩
  have hsh:=shl1 (n:=v) (by omega)
  rw [hc0] at q1
  let P:D→Store→Prop:=fun r S'=>∃ m' o',r = .tup [.i .i64 (code (post (mk v u0 u1) M) (mk v u0 u1)),.sl 3 m' ((nds (post (mk v u0 u1) M)).map eNd) o']∧LivC S' m' (post (mk v u0 u1) M).length o'∧(∀ s,s∈post (mk v u0 u1) M→Part n f s)∧Pres S S'
  obtain ⟨r,S',e,m',o',rfl,h⟩:=f53 (eBools nl (tabOf n f)) (.i .i64 n) (.i .i64 v) (.i .i64 b) (.sl 3 m ((nds M).map eNd) o) S P (by
   have w1:IntKind.i64.wrap ((v:Int)+1)=((v+1:Nat):Int):=wrapS (by unfold Bd;omega)
   have w2:IntKind.i64.wrap ((b:Int)+((2 ^ v:Nat):Int))=((b+2 ^ v:Nat):Int):=by
    generalize 2 ^ v=p at *
    rw [wrap64 ⟨by omega,by omega⟩];omega
   simp [-Int.natCast_pow,-Int.natCast_add,s53,e93,w1,q1,hsh,w2,q2,bldV]
   by_cases e01:u0=u1
   ·subst e01
    simp
    have hpm:post (mk v u0 u0) M=post u0 (post u0 M):=post_mk_eq hM v u0
    have hmk:mk v u0 u0=u0:=by simp [mk]
    refine ⟨m2,o2,?_,by rw [hpm];exact l2,by rw [hpm];exact p2,r1.trans r2⟩
    rw [hpm,hmk]
   ·have hne:¬code (post u1 (post u0 M)) u0=code (post u1 (post u0 M)) u1:=fun e=>e01 (code_inj s0 s2 e)
    have hmk:mk v u0 u1 = .node v u0 u1:=by simp [mk,e01]
    have hpm:post (mk v u0 u1) M=if T.node v u0 u1∈post u1 (post u0 M) then post u1 (post u0 M) else post u1 (post u0 M)++[.node v u0 u1]:=by rw [hmk];exact post_mk_ne hM e01
    simp [hne]
    rw [show [D.i .i64 (v:Int),.i .i64 (code (post u1 (post u0 M)) u0),.i .i64 (code (post u1 (post u0 M)) u1)]=eNd (nd (post u1 (post u0 M)) (.node v u0 u1)) from rfl]
    rw [hmk] at hpart
    have hkid:kids (post u1 (post u0 M)) (.node v u0 u1):=⟨s0,s2⟩
    have hP:∀ r S',P r S' = ∃ m' o',r = .tup [.i .i64 (code (post (mk v u0 u1) M) (mk v u0 u1)),.sl 3 m' ((nds (post (mk v u0 u1) M)).map eNd) o']∧LivC S' m' (post (mk v u0 u1) M).length o'∧(∀ s,s∈post (mk v u0 u1) M→Part n f s)∧Pres S S':=fun _ _=>rfl
    rw [hmk] at hpm
    rw [hmk,hpm] at hP
    clear_value P
    generalize post u1 (post u0 M)=M2 at *
    have hlen:((nds M2).map eNd).length=M2.length:=by rw [List.length_map,nds_len]
    let J:Nat→List D→Store→Prop:=fun q fr S'=>∃ k a10 a11 a62,k+q=M2.length∧nd M2 (.node v u0 u1) ∉ (nds M2).take k∧S'=Ent.box (eNd (nd M2 (.node v u0 u1)))::S2 ∧
     fr=mkf 81 [(4,.sl 3 m2 ((nds M2).map eNd) o2),(10,a10),(11,a11),(14,.bx S2.length 0),(15,.i .i64 k),(62,a62)]
    refine W_loop J ?_ M2.length _ _ ⟨0,_,_,_,by simp,by simp,rfl,rfl⟩
    rintro q fr S' ⟨j,a10,a11,a62,hj,hnot,rfl,rfl⟩
    rw [←wp_W,e53_0]
    by_cases hjl:j<M2.length
    ·obtain ⟨x,hx⟩:∃ x,M2[j]? = some x:=⟨_,List.getElem?_eq_getElem (by omega)⟩
     have hxn:(nds M2)[j]? = some (nd M2 x):=by simp [nds,hx]
     have hia:iaD 3 (.sl 3 m2 ((nds M2).map eNd) o2) (.i .i64 (j:Int))=some (.el (eNd (nd M2 x)) 0):=by simp [iaD,hxn]
     simp [s53_0,nds_len,hjl,hia]
     by_cases e:nd M2 x=nd M2 (.node v u0 u1)
     ·have hxm:=List.mem_of_getElem? hx
      have hxe:=nd_inj (Cl_kids c2 x hxm) hkid e
      subst hxe
      have hcg:=code_get c2 hx
      simp [wrap64 (n:=(j:Int)+2) ⟨by omega,by omega⟩]
      rw [hP]
      simp only [hxm,if_true]
      exact ⟨m2,o2,by rw [hcg],l2.push _,p2,(r1.trans r2).trans (Pres.push _ _)⟩
     ·simp [e,wrapS (show Bd j by unfold Bd;omega)]
      refine ⟨q-1,by omega,j+1,_,_,_,by omega,?_,rfl,rfl⟩
      rw [take_snoc hxn]
      simp only [List.mem_append,List.mem_singleton,not_or]
      exact ⟨hnot,fun h=>e h.symm⟩
    ·have hj':(nds M2).take j=nds M2:=List.take_of_length_le (by rw [nds_len];omega)
     rw [hj'] at hnot
     have hnm:T.node v u0 u1 ∉ M2:=fun h=>hnot ((nds_mem c2 hkid).2 h)
     have hcl:Cl (M2++[.node v u0 u1]):=Cl_snoc.2 ⟨c2,hnm,hkid⟩
     obtain ⟨t,S4,q4,l4,p4⟩:=app_livC (k:=3) (n':=false) (xs:=(nds M2).map eNd) (ys:=[eNd (nd M2 (.node v u0 u1))]) (o':=.ro) (S:=Ent.box (eNd (nd M2 (.node v u0 u1)))::S2) (by rw [hlen];exact l2.push _) (by rw [hlen];simp [maxLenD];omega) (by simp)
     have hX:(nds M2).map eNd++[eNd (nd M2 (.node v u0 u1))]=(nds (M2++[.node v u0 u1])).map eNd:=by rw [nds_snoc hcl,List.map_append];rfl
     rw [hX] at q4
     simp [s53_0,nds_len,hjl,e53_r0,s53_r0,q4,wrap64 (n:=(M2.length:Int)+2) ⟨by omega,by omega⟩]
     rw [hP]
     simp only [hnm,if_false]
     refine ⟨false,.tok t,?_,.tok l4,?_,((r1.trans r2).trans (Pres.push _ _)).trans p4⟩
     ·simp only [code]
      rw [pos_new [] hnm]
     ·intro s hs
      rcases List.mem_append.1 hs with hs | hs
      ·exact p2 s hs
      ·rw [List.mem_singleton.1 hs];exact hpart)
  exact ⟨m',o',S',e,h⟩
theorem v18 (nl nl':Bool) (ord:List Row) (h7:ord.length≤7) (f:(Nat→Bool)→Bool) (hd:Dep ord.length 0 f) :
  ∃ m,isoCall (call dp) 18 [eRows nl ord,eBools nl' (tabOf ord.length f)]=some (eT nl m ord (treeOf ord.length f)):=by
 obtain ⟨m,o,S',q,l,_,p⟩:=v53 nl' ord.length h7 f hd ord.length 0 0 [] false .cap0 [Ent.box [.sl 2 true [] .ro,.sl 3 true [] .ro,.i .i64 0]] (by omega) (by omega) (by simp) Cl_nil (by simp) (.inr ⟨rfl,rfl,rfl⟩)
 rw [subT_zero] at q
 have hb:=p 0 _ (show sget [Ent.box [.sl 2 true [] .ro,.sl 3 true [] .ro,.i .i64 0]] 0=some _ from rfl)
 refine ⟨m,?_⟩
 apply i18 _ _ _ (by simp [noRefL]) (by simp [eT])
 have q':call dp 53 [eBools nl' (tabOf ord.length f),.i .i64 ord.length,.i .i64 0,.i .i64 0,.sl 3 false [] .cap0] [Ent.box [.sl 2 true [] .ro,.sl 3 true [] .ro,.i .i64 0]]=_:=q
 simp [s18,q',bldV,hb]
 rw [sget_sset _ (sget_lt hb)]
 simp
 rfl
end Go.Proofs.YtjlmeikcfdanmaaGreatDoor.DE.V

namespace Go.Proofs.YtjlmeikcfdanmaaGreatDoor.DE.V
open Go BT
end Go.Proofs.YtjlmeikcfdanmaaGreatDoor.DE.V

namespace Go.Proofs.YtjlmeikcfdanmaaGreatDoor.DE
open Go
def awk (n:Nat):Bool:=match callN dp n 10 [] [] with
 | some (.b true,_)=>true
 | _=>false
theorem awk_ok:awk 60=true:=by kernel_rfl
theorem v10:isoCall (call dp) 10 []=some (.b true):=by
 have h:∃ S,callN dp 60 10 [] []=some (.b true,S):=by
  have:=awk_ok
  unfold awk at this
  split at this
  ·rename_i S h;exact ⟨S,h⟩
  ·cases this
 obtain ⟨S,h⟩:=h
 have:=(call_iff 10 [] [] _).2 ⟨60,h⟩
 simp only [isoCall,stripL,noRefL,if_true,this]
 rfl
end Go.Proofs.YtjlmeikcfdanmaaGreatDoor.DE

namespace Go.Proofs.YtjlmeikcfdanmaaGreatDoor.DE.V
open Go BT
set_option maxRecDepth 20000
end Go.Proofs.YtjlmeikcfdanmaaGreatDoor.DE.V

namespace Go.Proofs.YtjlmeikcfdanmaaGreatDoor.DE.V
open Go BT
set_option maxRecDepth 20000
end Go.Proofs.YtjlmeikcfdanmaaGreatDoor.DE.V

namespace Go.Proofs.YtjlmeikcfdanmaaGreatDoor.DE.V
open Go BT
set_option maxRecDepth 20000
end Go.Proofs.YtjlmeikcfdanmaaGreatDoor.DE.V

namespace Go.Proofs.YtjlmeikcfdanmaaGreatDoor.DE.V
open Go BT
set_option maxRecDepth 20000
open Classical in
theorem sameT9 (na na' nb nb':Bool) (o:List Row) (t s:T) (h7:o.length≤7) (ws:Wf o.length s):isoCall (call dp) 17 [eT na na' o t,eT nb nb' o s]=some (.b (decide (t=s))):=by
 have z2:=small h7 ws
 have e:=v17 na na' nb nb' o o (nds (post t [])) (nds (post s [])) (code (post t []) t) (code (post s []) s) (by rw [nds_len];unfold Bd;omega) (by unfold Bd;omega)
 refine e.trans ?_
 congr 2
 rw [decide_eq_decide]
 constructor
 ·rintro ⟨_,h2,h1⟩
  have:=nds_inj (post_nil t).1 (post_nil s).1 h2
  rw [←this] at h1
  exact code_inj (post_nil t).2.1 (this ▸ (post_nil s).2.1) h1
 ·rintro rfl
  exact ⟨rfl,rfl,rfl⟩
theorem sameZ9:isoCall (call dp) 17 [zB,zB]=some (.b true):=by
 have:=v17 true true true true [] [] [] [] 0 0 (by unfold Bd;simp) (by unfold Bd;simp)
 simp only [and_self,decide_true] at this
 exact this
end Go.Proofs.YtjlmeikcfdanmaaGreatDoor.DE.V

namespace Go.Proofs.YtjlmeikcfdanmaaGreatDoor.DE.V
open Go BT
set_option linter.unusedSimpArgs false
set_option linter.unusedVariables false
set_option maxRecDepth 20000
def RE (n:Nat) (o:Option T) (r:D):Prop:=match o with
 | none=>∃ nl l,r = .tup [eBools nl l,.b false]
 | some t=>Wf n t∧∃ nl,r = .tup [eBools nl (tabOf n (fn t)),.b true]
theorem RE_err (n:Nat) (nl:Bool) (l:List Bool):RE n none (.tup [eBools nl l,.b false]):=⟨nl,l,rfl⟩
theorem RE_nil (n:Nat):RE n none (.tup [.sl 1 true [] .ro,.b false]):=⟨true,[],rfl⟩
theorem RE_mk {n:Nat} {t:T} (w:Wf n t) (nl:Bool):RE n (some t) (.tup [eBools nl (tabOf n (fn t)),.b true]):=⟨w,nl,rfl⟩
theorem RE.noRef {n:Nat} {o:Option T} {d:D} (h:RE n o d):noRef d=true:=by
 cases o with
 | none=>obtain ⟨nl,l,rfl⟩:=h;simp [DE.noRef,noRefL]
 | some t=>obtain ⟨_,nl,rfl⟩:=h;simp [DE.noRef,noRefL]
theorem treeOf_fnT {n:Nat} {t:T} (w:Wf n t):treeOf n (fn t)=t:=
 canon' (treeOf_wf _ _) w fun a=>treeOf_fn ((fn_dep w).mono (Nat.zero_le _)) a
theorem fn_opF {n:Nat} {t s:T} (wt:Wf n t) (ws:Wf n s):(fun a=>fn t a&&fn s a)=fn (opT n false t s):=by funext a;rw [opT_fn wt ws];rfl
theorem fn_opV {n:Nat} {t s:T} (wt:Wf n t) (ws:Wf n s):(fun a=>fn t a || fn s a)=fn (opT n true t s):=by funext a;rw [opT_fn wt ws];rfl
theorem fn_notF (t:T):(fun a=>!fn t a)=fn (notT t):=by funext a;rw [fn_not]
theorem fn_varF (i:Nat):(fun a=>a i)=fn (varT i):=by funext a;rw [varT_fn]
variable {nl:Bool} {ord:List Row} {N:Int}
theorem v114 (nl m:Bool) (ord:List Row) (N:Int) (t:T) (h7:ord.length≤7) (w:Wf ord.length t):isoCall (call dp) 114 [eRows nl ord,eBools m (tabOf ord.length (fn t)),.i .i64 N]=some (.b (match limT N t with | none=>false | some _=>true)):=by
 obtain ⟨m',e⟩:=v18 nl m ord h7 (fn t) ((fn_dep w).mono (Nat.zero_le _))
 rw [treeOf_fnT w] at e
 apply i114 _ _ _ _ (by simp [noRefL]) (by simp)
 have hfd:fldD 1 1 false (eT nl m' ord t)=some (eNds m' (nds (post t []))):=rfl
 by_cases hN:N<((post t []).length:Int)
 ·have h':¬((post t []).length:Int)≤N:=by omega
  simp [s114,e,hfd,limT,nds_len,hN,h']
 ·have h':((post t []).length:Int)≤N:=by omega
  simp [s114,e,hfd,limT,nds_len,hN,h']
def BuR {α:Type} (nl:Bool) (ord:List Row) (N:Int) (e:α→D) (g:α→Prop) (b:α→Option T):Prop:=∀ a,g a→∃ r,isoCall (call dp) 70 [eRows nl ord,e a,.i .i64 N]=some r∧RE ord.length (b a) r
theorem v113 {α:Type} {e:α→D} {g:α→Prop} {b:α→Option T} (he:GE e) (h7:ord.length≤7) (H:BuR nl ord N e g b) (f:Fc α) (hf:gdFc ord g f) :
  ∃ r,isoCall (call dp) 113 [eRows nl ord,.agg (eAt e f),.i .i64 N]=some r∧RE ord.length (atT b ord N f) r:=by
 apply j113 _ _ _ (RE ord.length (atT b ord N f)) (by simp [noRefL,noRef_agAt he]) (fun r h=>h.noRef)
 rw [strip_agAt]
 rcases hf with ⟨k0,hr⟩ | ⟨k0,a,l,hargs,hga,hk⟩
 ·have e15:=v15 nl ord f.row (by unfold Bd;omega)
  have hix:=ixOf_mem.2 hr
  have hlt:=(ixOf_lt f.row ord).1
  obtain ⟨i,hi⟩:∃ i:Nat,ixOf f.row ord=i:=⟨(ixOf f.row ord).toNat,by omega⟩
  have e20:=v20 ord.length i h7 (by omega)
  rw [fn_varF] at e20
  rw [hi] at e15
  simp [s113,k0,e15,e20,atT,hi]
  exact RE_mk (varT_wf (by omega)) _
 ·obtain ⟨r,c1,hr⟩:=H a hga
  rw [atT,if_neg k0,hargs,atK]
  cases hb:b a with
  | none=>
   rw [hb] at hr
   obtain ⟨_,_,rfl⟩:=hr
   simp [s113,k0,hargs,c1]
   exact RE_nil _
  | some t=>
   rw [hb] at hr
   obtain ⟨wt,m,rfl⟩:=hr
   simp only
   by_cases k2:f.kind=2
   ·simp [s113,k2,hargs,c1]
    exact RE_mk wt _
   ·by_cases k3:f.kind=3
    ·have e26:=v26 m ord.length h7 (fn t)
     rw [fn_notF] at e26
     simp [s113,k3,hargs,c1,e26]
     exact RE_mk (Wf_not wt) _
    ·rcases hk with hk | hk | ⟨c,l',rfl,hgc⟩
     ·exact absurd hk k2
     ·exact absurd hk k3
     ·obtain ⟨r,c2,hr⟩:=H c hgc
      rw [if_neg k2,if_neg k3,atL]
      cases hbc:b c with
      | none=>
       rw [hbc] at hr
       obtain ⟨_,_,rfl⟩:=hr
       simp [s113,k0,k2,k3,hargs,c1,c2]
       exact RE_nil _
      | some s=>
       rw [hbc] at hr
       obtain ⟨ws,m2,rfl⟩:=hr
       have e26:=v26 m2 ord.length h7 (fn s)
       rw [fn_notF] at e26
       have e28:=v28 m false ord.length h7 (fn t) (fn (notT s))
       rw [fn_opF wt (Wf_not ws)] at e28
       have wo:=opT_wf ord.length false t (notT s)
       have e114:=v114 nl false ord N (opT ord.length false t (notT s)) h7 wo
       simp only
       cases hl:limT N (opT ord.length false t (notT s)) with
       | none=>
        rw [hl] at e114
        simp [-OX_b,s113,k0,k2,k3,hargs,c1,c2,e26,e28,e114]
        exact RE_err _ _ _
       | some u=>
        rw [hl] at e114
        have hu:=limT_le hl
        subst hu
        simp [-OX_b,s113,k0,k2,k3,hargs,c1,c2,e26,e28,e114]
        exact RE_mk wo _
set_option maxHeartbeats 1000000 in
theorem v70s {α:Type} {e:α→D} {g:α→Prop} {b:α→Option T} (he:GE e) (h7:ord.length≤7) (H:BuR nl ord N e g b):BuR nl ord N (eAn e) (gdAn ord g) (buAn b ord N):=by
 intro x hx
 generalize hR:buAn b ord N x=R
 apply j70 _ _ _ (RE ord.length R) (by simp [noRefL,noRef_eAn he]) (fun r h=>h.noRef)
 rw [strip_eAn]
 have hxl:=hx.1
 have e19:=fun c=>v19 ord.length h7 c
 have hlf:∀ c:Bool,(fun _:Nat→Bool=>c)=fn (.leaf c):=fun c=>rfl
 simp only [hlf] at e19
 simp [s70,e19]
 let J:Nat→List D→Store→Prop:=fun q fr S=>∃ k acc m b6 b7 b10 b11 b20 b33 b68,fr=mkf 70 [(0,eRows nl ord),(1,eAn e x),(2,.i .i64 N),(6,b6),(7,b7),(8,eBools m (tabOf ord.length (fn acc))),(9,.i .i64 (k:Nat)),(10,b10),(11,b11),(20,b20),(33,b33),(68,b68)]∧k+q=x.ts.length∧R=anL b ord N acc (x.ts.drop k)∧Wf ord.length acc
 refine W_loop J ?_ x.ts.length _ _ ⟨0,.leaf false,false,_,_,_,_,_,_,_,rfl,by simp,hR.symm,trivial⟩
 intro q fr S hJ;obtain ⟨k,acc,m,b6,b7,b10,b11,b20,b33,b68,hfr,hk,hv,hw⟩:=hJ;rw [hfr]
 rw [←wp_W,e70_1]
 simp [s70_1]
 split
 ·rename_i h
  obtain ⟨t,ht⟩:=get_lt (l:=x.ts) (k:=k) (by omega)
  have hgt:=hx.2 t (List.mem_of_getElem? ht)
  have hfl:=hgt.1
  rw [drop_get ht,anL] at hv
  simp [e19]
  generalize hR0:tmL b ord N (.leaf true) t.fs=R0
  rw [hR0] at hv
  let J2:Nat→List D→Store→Prop:=fun q fr S=>∃ i ac2 m2 b6 b7 b20 b33 b68,fr=mkf 70 [(0,eRows nl ord),(1,eAn e x),(2,.i .i64 N),(6,b6),(7,b7),(8,eBools m (tabOf ord.length (fn acc))),(9,.i .i64 (k:Nat)),(10,eBools m2 (tabOf ord.length (fn ac2))),(11,.i .i64 (i:Nat)),(20,b20),(33,b33),(68,b68)]∧i+q=t.fs.length∧R0=tmL b ord N ac2 (t.fs.drop i)∧Wf ord.length ac2
  refine W_loop J2 ?_ t.fs.length _ _ ⟨0,.leaf true,false,_,_,_,_,_,rfl,by simp,hR0.symm,trivial⟩
  intro q2 fr S hJ;obtain ⟨i,ac2,m2,b6,b7,b20,b33,b68,hfr,hi,hv2,hw2⟩:=hJ;rw [hfr]
  rw [←wp_W,e70_0]
  simp [s70_0,iaD_eAn e _ ht]
  split
  ·rename_i h2
   obtain ⟨f,hf⟩:=get_lt (l:=t.fs) (k:=i) (by omega)
   obtain ⟨r,c1,hr⟩:=v113 he h7 H f (hgt.2 f (List.mem_of_getElem? hf))
   rw [drop_get hf,tmL] at hv2
   cases hat:atT b ord N f with
   | none=>
    rw [hat] at hr hv2
    obtain ⟨_,_,rfl⟩:=hr
    simp only at hv2
    subst hv2
    simp only at hv
    subst hv
    simp [iaD_eFcs e _ hf,c1]
    exact RE_nil _
   | some y=>
    rw [hat] at hr hv2
    obtain ⟨wy,my,rfl⟩:=hr
    have e28:=v28 m2 my ord.length h7 (fn ac2) (fn y)
    rw [fn_opF hw2 wy] at e28
    have wo:=opT_wf ord.length false ac2 y
    have e114:=v114 nl false ord N (opT ord.length false ac2 y) h7 wo
    simp only at hv2
    cases hl:limT N (opT ord.length false ac2 y) with
    | none=>
     rw [hl] at e114 hv2
     simp only at hv2 e114
     subst hv2
     simp only at hv
     subst hv
     simp [iaD_eFcs e _ hf,c1,e28,e114]
     exact RE_nil _
    | some u=>
     have hu:=limT_le hl
     subst hu
     rw [hl] at e114 hv2
     simp only at hv2 e114
     simp [iaD_eFcs e _ hf,c1,e28,e114]
     rw [wrapL h2 hfl]
     exact ⟨q2-1,by omega,⟨i+1,_,false,_,_,_,_,_,rfl,by omega,hv2,wo⟩⟩
  ·rename_i h2
   rw [List.drop_eq_nil_of_le (show t.fs.length≤i by omega),tmL] at hv2
   subst hv2
   simp only at hv
   have e29:=v29 m m2 ord.length h7 (fn acc) (fn ac2)
   rw [fn_opV hw hw2] at e29
   have wo:=opT_wf ord.length true acc ac2
   have e114:=v114 nl false ord N (opT ord.length true acc ac2) h7 wo
   cases hl:limT N (opT ord.length true acc ac2) with
   | none=>
    rw [hl] at e114 hv
    simp only at hv e114
    subst hv
    simp [e70_r0,s70_r0,e29,e114]
    exact RE_nil _
   | some u=>
    have hu:=limT_le hl
    subst hu
    rw [hl] at e114 hv
    simp only at hv e114
    simp [e70_r0,s70_r0,e29,e114,e70_r1,s70_r1]
    rw [wrapL h hxl]
    exact ⟨q-1,by omega,⟨k+1,_,false,_,_,_,_,_,_,_,rfl,by omega,hv,wo⟩⟩
 ·rename_i h
  rw [List.drop_eq_nil_of_le (show x.ts.length≤k by omega),anL] at hv
  subst hv
  simp [e70_r2,s70_r2]
  exact RE_mk hw _
theorem v70 (h7:ord.length≤7):∀ n,BuR nl ord N (eAnn n) (gdAnn ord n) (buAnn ord N n)
 | 0=>fun x=>nomatch x
 | n+1=>v70s (GE_eAnn n) h7 (v70 h7 n)
theorem limT_len {t s:T} (h:limT N t=some s):((post s []).length:Int)≤N:=by
 unfold limT at h;split at h;cases h;injection h with h;subst h;omega
theorem anL_len {α:Type} {b:α→Option T}:∀ {l:List (Tm α)} {acc t:T},((post acc []).length:Int)≤N→anL b ord N acc l=some t→((post t []).length:Int)≤N
 | [],acc,t,h,e=>by rw [anL] at e;injection e with e;subst e;exact h
 | x::l,acc,t,h,e=>by
  rw [anL] at e
  cases h1:tmL b ord N (.leaf true) x.fs with
  | none=>rw [h1] at e;cases e
  | some y=>
   rw [h1] at e
   simp only at e
   cases h2:limT N (opT ord.length true acc y) with
   | none=>rw [h2] at e;cases e
   | some a=>rw [h2] at e;exact anL_len (limT_len h2) e
theorem buS_len (hN:0≤N):∀ {x:SA} {t:T},buS ord N x=some t→((post t []).length:Int)≤N
 | ⟨0,x⟩,_=>nomatch x
 | ⟨n+1,x⟩,t=>fun e=>anL_len (acc:=.leaf false) (l:=x.ts) (b:=buAnn ord N n) (by simpa [post] using hN) e
set_option maxHeartbeats 1000000 in
theorem v32 (x:SA) (hx:okS x) (hw:smS x→wS x≤40) (nl:Bool) (ord:List Row) (hn:nlOk nl ord) (h7:ord.length≤7) (N:Int) :
  ∃ r,isoCall (call dp) 32 [eRows nl ord,eS x,.i .i64 N]=some r∧BD nl ord N x r:=by
 have e16:=v16 nl ord (by unfold Bd;omega)
 have e67:=v67S x hx
 rw [validS_eq x hx hw] at e67
 have e68:isoCall (call dp) 68 [eS x]=some (.b (teS x)):=v68 x.1 x.2 hx
 apply j32 _ _ _ (BD nl ord N x) (by simp [noRefL,GE_eS.noRef,GE_eS.strip]) (fun r h=>h.noRef)
 have hstr:strip (eS x)=eS x:=GE_eS.strip x
 rw [hstr]
 simp only [strip_eRows,strip_i]
 by_cases ho:OrdOk ord
 case neg=>
  have hno:¬(OrdOk ord∧ord.length≤4096):=fun h=>ho h.1
  simp only [hno,decide_false] at e16
  simp [s32,e16,bldV_z,agg_zB]
  exact .inl ⟨fun h=>ho h.1,rfl⟩
 have hyes:OrdOk ord∧ord.length≤4096:=⟨ho,by omega⟩
 simp only [hyes,and_self,decide_true] at e16
 by_cases hval:validS x=true
 case neg=>
  have hval':validS x=false:=by simpa using hval
  rw [hval'] at e67
  simp [s32,e16,e67,bldV_z,agg_zB]
  exact .inl ⟨fun h=>hval h.2.1,rfl⟩
 rw [hval] at e67
 have hwl:=hw (smS_valid hval)
 by_cases hN:N<0
 ·simp [s32,e16,e67,hN,bldV_z,agg_zB]
  exact .inl ⟨fun h=>by omega,rfl⟩
 have hN':0≤N:=by omega
 cases hte:teS x with
 | true=>
  rw [hte] at e68
  simp [s32,e16,e67,hN,e68,bldV_z,agg_zB]
  exact .inr (.inl ⟨⟨ho,hval,hN'⟩,hte,rfl⟩)
 | false=>
  rw [hte] at e68
  have hva:(vaS x).length≤40:=Nat.le_trans (vaAnn_le x.1 x.2) hwl
  obtain ⟨nn,L,e69,hL⟩:=v69 x.1 x.2 hx (show (vaAnn x.1 x.2).length≤1000 from Nat.le_trans hva (by omega))
  have e69:isoCall (call dp) 69 [eS x]=some (eRows nn L):=e69
  have hLm:∀ r,r∈L↔r∈vaS x:=hL.1
  have hLl:L.length≤40:=Nat.le_trans hL.2 hva
  simp [s32,e16,e67,hN,e68,e69]
  let J:Nat→List D→Store→Prop:=fun q fr S=>∃ k b7 b33,fr=mkf 57 [(0,eRows nl ord),(1,eS x),(2,.i .i64 N),(6,.bx 0 0),(7,b7),(8,eRows nn L),(9,.i .i64 (k:Nat)),(33,b33)]∧k+q=L.length∧(∀ r,r∈L.take k→r∈ord)∧S=[Ent.box [.sl 2 true [] .ro,.sl 3 true [] .ro,.i .i64 0]]
  refine W_loop J ?_ L.length _ _ ⟨0,_,_,rfl,by simp,by simp,rfl⟩
  intro q fr S hJ;obtain ⟨k,b7,b33,hfr,hk,ha,hS⟩:=hJ;rw [hfr]
  subst hS
  rw [←wp_W,e32_0]
  simp [s32_0]
  split
  ·rename_i h
   obtain ⟨r,hr⟩:=get_lt (l:=L) (k:=k) (by omega)
   have e15:=v15 nl ord r (by unfold Bd;omega)
   by_cases hm:r∈ord
   ·have hix:=ixOf_mem.2 hm
    have hneg:¬ixOf r ord<0:=by omega
    simp [iaD_rows _ hr,e15,hneg]
    rw [wrapS (k:=k) (by unfold Bd;omega)]
    refine ⟨q-1,by omega,⟨k+1,_,_,rfl,by omega,fun r' h'=>?_,rfl⟩⟩
    rw [take_snoc hr,List.mem_append,List.mem_singleton] at h'
    rcases h' with h' | rfl
    ·exact ha r' h'
    ·exact hm
   ·have hneg:ixOf r ord<0:=by rw [ixOf_none hm];omega
    simp [iaD_rows _ hr,e15,hneg,bldV_z,agg_zB]
    exact .inr (.inr (.inl ⟨⟨ho,hval,hN'⟩,hte,⟨r,(hLm r).1 (List.mem_of_getElem? hr),hm⟩,rfl⟩))
  ·rename_i h
   rw [List.take_of_length_le (by omega)] at ha
   have hall:∀ w,w∈vaS x→w∈ord:=fun w hw'=>ha w ((hLm w).2 hw')
   obtain ⟨r,c70,hr⟩:=v70 (nl:=nl) (N:=N) h7 x.1 x.2 (gd_ann x.1 x.2 hx hval hte hall)
   have c70:isoCall (call dp) 70 [eRows nl ord,eS x,.i .i64 N]=some r:=c70
   have fin:∀ d,RD nl ord (buS ord N x) d→BD nl ord N x d:=fun d h=>.inr (.inr (.inr ⟨⟨ho,hval,hN'⟩,hte,hall,h⟩))
   have hbu:buAnn ord N x.1 x.2=buS ord N x:=rfl
   rw [hbu] at hr
   cases hb:buS ord N x with
   | none=>
    rw [hb] at hr fin
    obtain ⟨_,_,rfl⟩:=hr
    simp [e32_r0,s32_r0,c70,bldV_z,agg_zB]
    exact fin _ (by simp)
   | some t=>
    rw [hb] at hr fin
    obtain ⟨wt,m,rfl⟩:=hr
    obtain ⟨m',e18⟩:=v18 nl m ord h7 (fn t) ((fn_dep wt).mono (Nat.zero_le _))
    rw [treeOf_fnT wt] at e18
    simp [e32_r0,s32_r0,c70,e18]
    exact fin _ (RD_mk wt)
theorem BD.same {x:SA} {r1 r2:D} (h1:BD nl ord N x r1) (h2:BD nl ord N x r2) :
  (∃ k:Int,k≠0∧r1 = .tup [zB,.i .i64 k]∧r2 = .tup [zB,.i .i64 k]) ∨
  (OrdOk ord∧∃ t m1 m2,Wf ord.length t∧((post t []).length:Int)≤N∧r1 = .tup [eT nl m1 ord t,.i .i64 0]∧r2 = .tup [eT nl m2 ord t,.i .i64 0]):=by
 rcases h1 with ⟨a,rfl⟩ | ⟨a,b,rfl⟩ | ⟨a,b,⟨w,c,c'⟩,rfl⟩ | ⟨a,b,c,h1⟩
 ·rcases h2 with ⟨a',rfl⟩ | ⟨a',b',rfl⟩ | ⟨a',b',c',rfl⟩ | ⟨a',b',c',h2⟩
  ·exact .inl ⟨1,by omega,rfl,rfl⟩
  ·exact absurd a' a
  ·exact absurd a' a
  ·exact absurd a' a
 ·rcases h2 with ⟨a',rfl⟩ | ⟨a',b',rfl⟩ | ⟨a',b',c',rfl⟩ | ⟨a',b',c',h2⟩
  ·exact absurd a a'
  ·exact .inl ⟨13,by omega,rfl,rfl⟩
  ·rw [b] at b';cases b'
  ·rw [b] at b';cases b'
 ·rcases h2 with ⟨a',rfl⟩ | ⟨a',b',rfl⟩ | ⟨a',b',e',rfl⟩ | ⟨a',b',e',h2⟩
  ·exact absurd a a'
  ·rw [b] at b';cases b'
  ·exact .inl ⟨4,by omega,rfl,rfl⟩
  ·exact absurd (e' w c) c'
 ·rcases h2 with ⟨a',rfl⟩ | ⟨a',b',rfl⟩ | ⟨a',b',⟨w,e,e'⟩,rfl⟩ | ⟨a',b',e',h2⟩
  ·exact absurd a a'
  ·rw [b] at b';cases b'
  ·exact absurd (c w e) e'
  ·cases hb:buS ord N x with
   | none=>
    rw [hb] at h1 h2
    simp only [RD] at h1 h2
    subst h1;subst h2
    exact .inl ⟨6,by omega,rfl,rfl⟩
   | some t=>
    have hlen:=buS_len a.2.2 hb
    rw [hb] at h1 h2
    obtain ⟨wt,m1,rfl⟩:=h1
    obtain ⟨_,m2,rfl⟩:=h2
    exact .inr ⟨a.1,t,m1,m2,wt,hlen,rfl,rfl⟩
set_option maxHeartbeats 1000000 in
open Classical in
theorem law4 (n:Bool) (o:List Row) (x:SA) (N:Int) (g:n=true→o=[]) (_:∀ a∈o,okRow a) (kx:okS x) (_:in64 N) :
  ∃ S',call dp 4 [eRows n o,eS x,.i .i64 N] []=some (.b true,S'):=by
 obtain ⟨r,S',e,rfl⟩:=f4 (eRows n o) (eS x) (.i .i64 N) [] (fun d _=>d = .b true) (by
  have hcv:cellsV 1 false [eS x]=some [[eS x]]:=by simp [cellsV,cellsK,GE_eS.cell]
  have harg:D.sl 1 false [[eS x]] .ro=eArgs eS false [x]:=rfl
  obtain ⟨d,e30,c,rfl,hw⟩:=v30 [x] (by simp [Bd]) (by intro p hp;rw [List.mem_singleton.1 hp];exact kx)
  by_cases b1:o.length≤7
  case neg=>simp [s4,v10,v12,b1]
  cases c with
  | false=>simp [s4,v10,v12,b1,hcv,harg,e30]
  | true=>
   have wx:=hw rfl x (by simp)
   obtain ⟨r1,e1,h1⟩:=v31 x kx wx n o g b1 N
   obtain ⟨r2,e2,h2⟩:=v32 x kx wx n o g b1 N
   rcases BD.same h1 h2 with ⟨k,hk,rfl,rfl⟩ | ⟨ho,t,m1,m2,wt,hlen,rfl,rfl⟩
   ·simp [s4,v10,v12,b1,hcv,harg,e30,e1,e2,agg_zB,sameZ9,hk]
   ·have e17:=sameT9 n m1 n m2 o t t b1 wt
    have hv:VB o (nds (post t [])) (code (post t []) t):=VB_VT.2 ⟨t,VT_eT ho b1 wt⟩
    have hs:=small b1 wt
    have e33:=v33 n m1 o (nds (post t [])) (code (post t []) t) g (by rw [nds_len];unfold Bd;omega) (by unfold Bd;omega)
    simp only [hv,decide_true] at e33
    have e33:isoCall (call dp) 33 [eT n m1 o t]=some (.b true):=e33
    simp [s4,v10,v12,b1,hcv,harg,e30,e1,e2,e17,e33,hlen,nds_len])
 exact ⟨S',e⟩
end Go.Proofs.YtjlmeikcfdanmaaGreatDoor.DE.V
