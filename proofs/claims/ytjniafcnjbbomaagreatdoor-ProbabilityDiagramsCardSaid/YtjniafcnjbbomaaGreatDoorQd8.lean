/-
  SEVERAL TEXTS IN ONE (joined by tools/asm3.py of this repository): De22, De23, De24, De25, Na, Nb, Nc, Nd, Ne, Ga, Fa, Gb, Gc, Gd, Fb, Ge, Gf.
-/
import Derived.Test.YtjniafcnjbbomaaGreatDoorQd1
import Derived.Test.YtjniafcnjbbomaaGreatDoorQd5
import GoSem.Op.String
import Derived.Laws.BitsLemmas
import GoSem.Dispatch
import Derived.KernelRfl
set_option linter.unusedVariables false
set_option linter.unusedSimpArgs false
namespace Go.Proofs.YtjniafcnjbbomaaGreatDoor.DE
open Go
section
variable {cf:CallF} {fr fr':List D} {S S':Store}
def W (cf:CallF) (c:C) (fr:List D) (S:Store) (Q:Ex→List D→Store→Prop):Prop:=match execL cf c fr S with
 | some (ex,fr',S')=>Q ex fr' S'
 | none=>False
theorem W_ex {c:C} {Q:Ex→List D→Store→Prop}:W cf c fr S Q↔∃ ex fr' S',execL cf c fr S=some (ex,fr',S')∧Q ex fr' S':=by
 unfold W
 cases h:execL cf c fr S with
 | none=>simp
 | some p=>
  obtain ⟨ex,f1,S1⟩:=p
  constructor
  ·exact fun h=>⟨ex,f1,S1,rfl,h⟩
  ·rintro ⟨ex',f2,S2,h1,h2⟩
   injection h1 with h1
   injection h1 with h1 h3
   injection h3 with h3 h4
   subst h1 h3 h4
   exact h2
def Qseq (K:List D→Store→Prop) (Q:Ex→List D→Store→Prop):Ex→List D→Store→Prop
 | .normal,fr,S=>K fr S
 | ex,fr,S=>Q ex fr S
def Qblk (id:Nat) (Q:Ex→List D→Store→Prop):Ex→List D→Store→Prop
 | .exit j,fr,S=>if j=id then Q .normal fr S else Q (.exit j) fr S
 | ex,fr,S=>Q ex fr S
def WB (d:D) (X Y:Prop):Prop:=match d with
 | .b true=>X
 | .b false=>Y
 | _=>False
def WG (d:D) (w:Bool) (X Y:Prop):Prop:=match d with
 | .b x=>if x=w then X else Y
 | .tup []=>Y
 | _=>False
def WR (r:Option (D × Store)) (K:D→Store→Prop):Prop:=match r with
 | some (d,S)=>K d S
 | none=>False
def WI (cf:CallF):List I→List D→Store→(List D→Store→Prop)→Prop
 | [],fr,S,Q=>Q fr S
 | i::is,fr,S,Q=>match evI cf fr S i with
  | some (fr',S')=>WI cf is fr' S' Q
  | none=>False
def WD (cf:CallF):List (Nat × I)→List D→Store→(List D→Store→Prop)→Prop
 | [],fr,S,Q=>Q fr S
 | (_,i)::is,fr,S,Q=>match evI cf fr S i with
  | some (fr',S')=>WD cf is fr' S' Q
  | none=>False
@[congr] theorem W_congr {c:C} {Q:Ex→List D→Store→Prop} (h:fr=fr') (k:S=S'):W cf c fr S Q=W cf c fr' S' Q:=by rw [h,k]
@[congr] theorem WI_congr {c:List I} {Q:List D→Store→Prop} (h:fr=fr') (k:S=S'):WI cf c fr S Q=WI cf c fr' S' Q:=by rw [h,k]
@[congr] theorem WD_congr {c:List (Nat × I)} {Q:List D→Store→Prop} (h:fr=fr') (k:S=S'):WD cf c fr S Q=WD cf c fr' S' Q:=by rw [h,k]
@[congr] theorem WB_congr {d d':D} {X Y:Prop} (h:d=d'):WB d X Y=WB d' X Y:=by rw [h]
@[congr] theorem WG_congr {d d':D} {w:Bool} {X Y:Prop} (h:d=d'):WG d w X Y=WG d' w X Y:=by rw [h]
@[congr] theorem WR_congr {r r':Option (D × Store)} {K:D→Store→Prop} (h:r=r'):WR r K=WR r' K:=by rw [h]
@[congr] theorem Qseq_congr {K:List D→Store→Prop} {Q:Ex→List D→Store→Prop} {ex ex':Ex} (e:ex=ex') (h:fr=fr') (k:S=S'):Qseq K Q ex fr S=Qseq K Q ex' fr' S':=by rw [e,h,k]
@[congr] theorem Qblk_congr {id:Nat} {Q:Ex→List D→Store→Prop} {ex ex':Ex} (e:ex=ex') (h:fr=fr') (k:S=S'):Qblk id Q ex fr S=Qblk id Q ex' fr' S':=by rw [e,h,k]
theorem Qseq_normal (K:List D→Store→Prop) (Q:Ex→List D→Store→Prop) (fr:List D) (S:Store):Qseq K Q .normal fr S=K fr S:=(rfl)
theorem Qseq_exit (K:List D→Store→Prop) (Q:Ex→List D→Store→Prop) (id:Nat) (fr:List D) (S:Store):Qseq K Q (.exit id) fr S=Q (.exit id) fr S:=(rfl)
theorem Qseq_ret (K:List D→Store→Prop) (Q:Ex→List D→Store→Prop) (fr:List D) (S:Store):Qseq K Q .ret fr S=Q .ret fr S:=(rfl)
theorem Qblk_normal (id:Nat) (Q:Ex→List D→Store→Prop) (fr:List D) (S:Store):Qblk id Q .normal fr S=Q .normal fr S:=(rfl)
theorem Qblk_ret (id:Nat) (Q:Ex→List D→Store→Prop) (fr:List D) (S:Store):Qblk id Q .ret fr S=Q .ret fr S:=(rfl)
theorem Qblk_same (id:Nat) (Q:Ex→List D→Store→Prop) (fr:List D) (S:Store):Qblk id Q (.exit id) fr S=Q .normal fr S:=by simp [Qblk]
theorem Qblk_other (id j:Nat) (h:(j == id)=false) (Q:Ex→List D→Store→Prop) (fr:List D) (S:Store):Qblk id Q (.exit j) fr S=Q (.exit j) fr S:=by
 have:¬j=id:=by simpa using h
 simp [Qblk,this]
theorem WB_true (X Y:Prop):WB (.b true) X Y=X:=rfl
theorem WB_false (X Y:Prop):WB (.b false) X Y=Y:=rfl
theorem W_skip (Q:Ex→List D→Store→Prop):W cf .skip fr S Q=Q .normal fr S:=by simp [W,execL]
theorem W_exit (id:Nat) (Q:Ex→List D→Store→Prop):W cf (.exit id) fr S Q=Q (.exit id) fr S:=by simp [W,execL]
theorem W_ret (Q:Ex→List D→Store→Prop):W cf .ret fr S Q=Q .ret fr S:=by simp [W,execL]
theorem WI_iff (Q:List D→Store→Prop):∀ (is:List I) (fr:List D) (S:Store),WI cf is fr S Q=match evIs cf fr S is with | some (fr',S')=>Q fr' S' | none=>False
 | [],fr,S=>rfl
 | i::is,fr,S=>by
  simp only [WI,evIs]
  cases evI cf fr S i with
  | none=>rfl
  | some p=>exact WI_iff Q is p.1 p.2
theorem WD_WI (Q:List D→Store→Prop):∀ (is:List (Nat × I)) (fr:List D) (S:Store),WD cf is fr S Q↔WI cf (snds is) fr S Q
 | [],fr,S=>Iff.rfl
 | (j,i)::is,fr,S=>by
  simp only [WD,snds,WI]
  cases evI cf fr S i with
  | none=>exact Iff.rfl
  | some p=>exact WD_WI Q is p.1 p.2
theorem W_reg (is:List I) (kl:List Nat) (Q:Ex→List D→Store→Prop):W cf (.reg is kl) fr S Q=WI cf is fr S (fun fr S=>Q .normal (fkill fr kl) S):=by
 rw [WI_iff]
 simp only [W,execL]
 cases h:evIs cf fr S is <;> rfl
theorem W_dreg (is:List (Nat × I)) (kl:List Nat) (Q:Ex→List D→Store→Prop):W cf (.dreg is kl) fr S Q=WD cf is fr S (fun fr S=>Q .normal (fkill fr kl) S):=by
 rw [propext (WD_WI _ is fr S),WI_iff]
 simp only [W,execL]
 cases h:evIs cf fr S (snds is) <;> rfl
theorem W_seq (x y:C) (Q:Ex→List D→Store→Prop):W cf (.seq x y) fr S Q=W cf x fr S (Qseq (fun fr S=>W cf y fr S Q) Q):=by
 simp only [W,execL]
 cases h:execL cf x fr S with
 | none=>rfl
 | some p=>
  obtain ⟨ex,f1,S1⟩:=p
  cases ex <;> rfl
theorem W_blk (id:Nat) (x:C) (Q:Ex→List D→Store→Prop):W cf (.blk id x) fr S Q=W cf x fr S (Qblk id Q):=by
 simp only [W,execL]
 cases h:execL cf x fr S with
 | none=>rfl
 | some p=>
  obtain ⟨ex,f1,S1⟩:=p
  cases ex with
  | normal=>rfl
  | exit j=>
   simp only [Qblk]
   split <;> rfl
  | ret=>rfl
theorem W_cond (q:A) (x y:C) (Q:Ex→List D→Store→Prop):W cf (.cond q x y) fr S Q=WB (av fr q) (W cf x fr S Q) (W cf y fr S Q):=by
 simp only [W,execL]
 cases av fr q <;> try rfl
 rename_i b
 cases b <;> rfl
theorem WI_op (dst:Option Nat) (r:R) (is:List I) (Q:List D→Store→Prop):WI cf (.op dst none r::is) fr S Q=WR (evR cf fr S r) (fun d S=>WI cf is (fsetO fr dst d) S Q):=by
 simp only [WI,evI,DE.wanted]
 cases evR cf fr S r <;> rfl
theorem WI_gd (dst:Option Nat) (t:Nat) (w:Bool) (r:R) (is:List I) (Q:List D→Store→Prop):WI cf (.op dst (some (t,w)) r::is) fr S Q =
  WG (fget fr t) w (WR (evR cf fr S r) (fun d S=>WI cf is (fsetO fr dst d) S Q)) (WI cf is (fsetO fr dst (.tup [])) S Q):=by
 simp only [WI,evI,DE.wanted]
 generalize fget fr t=d
 cases d <;> try rfl
 ·rename_i x
  by_cases h:x=w
  ·subst h
   simp only [beq_self_eq_true,WG,if_true]
   cases evR cf fr S r <;> rfl
  ·have:(x == w)=false:=by simpa using h
   simp [WG,h,this]
 ·rename_i l
  cases l <;> rfl
theorem WI_fz (t:Nat) (is:List I) (Q:List D→Store→Prop):WI cf (.fz t::is) fr S Q=WR (fzD (fget fr t) S) (fun d S=>WI cf is (fset fr t d) S Q):=by
 simp only [WI,evI]
 cases fzD (fget fr t) S <;> rfl
def WK (r:Option (D × Store)) (d:D) (K:Prop):Prop:=match r with
 | some (e,_)=>deq e d=true∧K
 | none=>False
@[congr] theorem WK_congr {r r':Option (D × Store)} {d d':D} {K:Prop} (h:r=r') (k:d=d'):WK r d K=WK r' d' K:=by rw [h,k]
theorem W_loop {kl:List Nat} {c:C} {Q:Ex→List D→Store→Prop} (J:Nat→List D→Store→Prop)
  (h:∀ m fr S,J m fr S→W cf c (fkill fr kl) S (Qseq (fun fr' S'=>∃ m',m'<m∧J m' fr' S') Q)):∀ m fr S,J m fr S→W cf (.loop kl c) fr S Q:=by
 have key:∀ m fr S,J m fr S→∃ n ex fr' S',iter (fun fr S=>execL cf c (fkill fr kl) S) n fr S=some (ex,fr',S')∧Q ex fr' S':=by
  intro m
  induction m using Nat.strongRecOn with
  | _ m ih=>
   intro fr S hJ
   obtain ⟨ex,f1,S1,he,hq⟩:=W_ex.1 (h m fr S hJ)
   cases ex with
   | normal=>
    obtain ⟨m',hlt,hJ'⟩:=hq
    obtain ⟨n,ex',f2,S2,he2,hq2⟩:=ih m' hlt f1 S1 hJ'
    exact ⟨n+1,ex',f2,S2,by simp only [iter,he];exact he2,hq2⟩
   | exit id=>exact ⟨1,.exit id,f1,S1,by simp only [iter,he],hq⟩
   | ret=>exact ⟨1,.ret,f1,S1,by simp only [iter,he],hq⟩
 intro m fr S hJ
 obtain ⟨n,ex,f1,S1,he,hq⟩:=key m fr S hJ
 refine W_ex.2 ⟨ex,f1,S1,?_,hq⟩
 simp only [execL]
 exact (lim_iff (fun n m hm=>iter_mono (fun _ _=>LeO.refl _) n m hm fr S) _).2 ⟨n,he⟩
theorem W_mono {c:C} {Q Q':Ex→List D→Store→Prop} (h:W cf c fr S Q) (hq:∀ ex fr S,Q ex fr S→Q' ex fr S):W cf c fr S Q':=by
 obtain ⟨ex,f1,S1,he,h⟩:=W_ex.1 h
 exact W_ex.2 ⟨ex,f1,S1,he,hq _ _ _ h⟩
def Fin (f:Fn) (Post:D→Store→Prop):Ex→List D→Store→Prop
 | .exit _,_,_=>False
 | _,fr,S=>match resL fr S f.res with
  | some l=>Post (resD l) S
  | none=>False
end
section
variable {dp:Nat→Option Fn} {S S':Store}
theorem call_W {g:Nat} {f:Fn} {args:List D} {Post:D→Store→Prop} (hg:dp g=some f) (hn:args.length=f.np∧f.np≤f.nt)
  (h:W (call dp) f.body (frame0 f args) S (Fin f Post)):∃ r S',call dp g args S=some (r,S')∧Post r S':=by
 obtain ⟨ex,f1,S1,he,hq⟩:=W_ex.1 h
 rw [call_eq]
 simp only [hg,hn,and_self,if_true,he]
 cases ex with
 | exit id=>exact hq.elim
 | normal=>
  simp only [Fin] at hq
  simp only [finish]
  cases hr:resL f1 S1 f.res with
  | none=>simp [hr] at hq
  | some l=>rw [hr] at hq;exact ⟨_,_,rfl,hq⟩
 | ret=>
  simp only [Fin] at hq
  simp only [finish]
  cases hr:resL f1 S1 f.res with
  | none=>simp [hr] at hq
  | some l=>rw [hr] at hq;exact ⟨_,_,rfl,hq⟩
theorem iso_W {g:Nat} {f:Fn} {args:List D} {r:D} (hg:dp g=some f) (hn:args.length=f.np∧f.np≤f.nt) (ha:noRefL (stripL args)=true) (hr:noRef r=true)
  (h:W (call dp) f.body (frame0 f (stripL args)) [] (Fin f fun d _=>stripT d=r)):isoCall (call dp) g args=some r:=by
 obtain ⟨d,S',h1,h2⟩:=call_W (args:=stripL args) hg (by
  refine ⟨?_,hn.2⟩
  rw [←hn.1]
  clear hn ha h
  induction args with
  | nil=>rfl
  | cons x l ih=>simp [stripL,ih]) h
 simp only [isoCall,ha,if_true,h1,h2,hr]
end
end Go.Proofs.YtjniafcnjbbomaaGreatDoor.DE

namespace Go.Proofs.YtjniafcnjbbomaaGreatDoor.DE
open Go
def OX {α:Type} (o:Option α) (K:α→Prop):Prop:=match o with
 | some x=>K x
 | none=>False
@[congr] theorem OX_congr {α:Type} {o o':Option α} {K:α→Prop} (h:o=o'):OX o K=OX o' K:=by rw [h]
@[simp] theorem OX_some {α:Type} (x:α) (K:α→Prop):OX (some x) K=K x:=(rfl)
def nilckD:D→Option D
 | .bx i o=>some (.bx i o)
 | .el c o=>some (.el c o)
 | .fn g c=>some (.fn g c)
 | _=>none
def pickD (c a b:D):Option D:=match c with
 | .b x=>some (if x then a else b)
 | _=>none
def convD (k:IntKind):D→Option D
 | .i _ n=>some (.i k (k.wrap n))
 | _=>none
def faD (o:Nat):D→Option D
 | .bx id p=>some (.bx id (p+o))
 | .el cs p=>some (.el cs (p+o))
 | _=>none
def fldD (o k:Nat) (g:Bool):D→Option D
 | .agg cs=>rdK cs o k g
 | _=>none
def iaaD (n k:Nat) (x i:D):Option D:=match x,i with
 | .bx id o,.i _ m=>if 0≤m∧m<n then some (.bx id (o+m.toNat * k)) else none
 | _,_=>none
def ixsD (x i:D):Option D:=match x,i with
 | .s l,.i _ m=>if 0≤m then (l[m.toNat]?).map fun c=>.i .u8 c.toNat else none
 | _,_=>none
def okD (ok:Bool) (z:D):Option D→D
 | some v=>if ok then .tup [v,.b true] else v
 | none=>if ok then .tup [z,.b false] else z
def lkD' (kk:KK) (ok:Bool) (z:D) (S:Store) (m key:D):Option D:=if isKey kk key then
  (match m with
  | .nilm=>some (okD ok z none)
  | .mp id=>match sget S id with
   | some (.map es)=>(lkD kk key es).map (okD ok z)
   | _=>none
  | _=>none) else none
def extD (x:D) (j:Nat):Option D:=match x with
 | .tup cs=>cs[j]?
 | _=>none
def lenD (str:Bool) (x:D):Option D:=match str,x with
 | false,.sl _ _ xs _=>some (.i .i64 xs.length)
 | false,.ar _ _ _ n=>some (.i .i64 n)
 | true,.s l=>some (.i .i64 l.length)
 | _,_=>none
def mxD (x y:D):Option D:=match x,y with
 | .i k a,.i k' b=>if k=k' then some (.i k (if b > a then b else a)) else none
 | _,_=>none
def mnD (x y:D):Option D:=match x,y with
 | .i k a,.i k' b=>if k=k' then some (.i k (if b<a then b else a)) else none
 | _,_=>none
def cmpsD (x y:D):Option D:=match x,y with
 | .s a,.s b=>some (.i .i64 (if Op.bytesLess a b then -1 else if a == b then 0 else 1))
 | _,_=>none
def avP (fr:List D):List (Nat × Nat × Bool × A)→List (Nat × Nat × Bool × D)
 | []=>[]
 | (o,k,g,x)::l=>(o,k,g,av fr x)::avP fr l
def bldV (z:List D):List (Nat × Nat × Bool × D)→Option (List D)
 | []=>some z
 | (o,k,g,x)::ps=>match cellsK k g x with
  | some cs=>if o+k≤z.length then bldV (splice z o cs) ps else none
  | none=>none
def cellsV (k:Nat) (g:Bool):List D→Option (List (List D))
 | []=>some []
 | x::l=>match cellsK k g x,cellsV k g l with
  | some cs,some r=>some (cs::r)
  | _,_=>none
def muD' (kk:KK) (S:Store) (m key v:D):Option Store:=if isKey kk key then
  (match m with
  | .mp id=>match sget S id with
   | some (.map es)=>(muD kk key v es).map fun es'=>sset S id (.map es')
   | _=>none
  | _=>none) else none
def clrD (k:Nat) (z:List D) (S:Store) (x:D):Option Store:=match x with
 | .ar k' id o n=>if k'=k∧z.length=k then (match sget S id with
  | some (.box cs)=>if o+n * k≤cs.length then some (sset S id (.box (splice cs o (List.replicate n z).flatten))) else none
  | _=>none) else none
 | .sl _ _ [] _=>some S
 | _=>none
def fnD:D→Option (Nat × List D)
 | .fn g cs=>some (g,cs)
 | _=>none
def mkslV (k:Nat) (arr:Bool) (z:List D) (S:Store) (n:D):Option (D × Store):=match n with
 | .i _ m=>if 0≤m∧m≤maxLenD then
   (if arr then some (.ar k S.length 0 m.toNat,.box (List.replicate m.toNat z).flatten::S)
   else (if m=0 then some (.sl k false [] .cap0,S) else some (.sl k false (List.replicate m.toNat z) (.tok S.length),.tok true::S))) else none
 | _=>none
def bslO (k:Nat) (l:List (List D)) (S:Store):D × Store:=if l.isEmpty then (.sl k false [] .cap0,S) else (.sl k false l (.tok S.length),.tok true::S)
def mentV (kk:KK) (z:D) (S:Store) (m key:D):Option (D × Store):=if isKey kk key then
  (match m with
  | .mp id=>match sget S id with
   | some (.map es)=>match posD kk key es 0 with
    | some (some j)=>match es[j]? with
     | some e=>some (.tup [e.2,.i .i64 j],sset S id (.map (putD key j es)))
     | none=>none
    | some none=>some (.tup [z,.i .i64 es.length],sset S id (.map (es++[(key,z)])))
    | none=>none
   | _=>none
  | _=>none) else none
def estV (S:Store) (m j v:D):Option Store:=match m,j with
 | .mp id,.i _ n=>match sget S id with
  | some (.map es)=>if 0≤n∧n<es.length then some (sset S id (.map (valD v n.toNat es))) else none
  | _=>none
 | _,_=>none
def isV:R→Bool
 | .alloc _=>false
 | .box _ _ _=>false
 | .bsl _ _ own _=>!own
 | .bsa _ _ _=>false
 | .st _ _ _ _=>false
 | .mkmap=>false
 | .mksl _ _ _ _=>false
 | .mu _ _ _ _=>false
 | .ment _ _ _ _=>false
 | .est _ _ _=>false
 | .app _ _ _ _=>false
 | .clr _ _ _=>false
 | .call _ iso _=>iso
 | .calld _ iso _=>iso
 | _=>true
section
variable (cf:CallF) (fr:List D) (S:Store)
def rV:R→Option D
 | .mv x=>some (av fr x)
 | .nilck x=>nilckD (av fr x)
 | .pick c a b=>pickD (av fr c) (av fr a) (av fr b)
 | .bld z ps=>(bldV z (avP fr ps)).map .agg
 | .bsl k g _ xs=>(cellsV k g (avs fr xs)).map fun l=>.sl k false l .ro
 | .ld k g a=>ldD S k g (av fr a)
 | .bin op q x y=>binD op q (av fr x) (av fr y)
 | .un op x=>unD op (av fr x)
 | .conv k x=>convD k (av fr x)
 | .mkfn g cs=>some (.fn g (avs fr cs))
 | .slc k x lo hi=>slcD k (av fr x) (avo fr lo) (avo fr hi)
 | .slcs x lo hi=>slcsD (av fr x) (avo fr lo) (avo fr hi)
 | .fa o x=>faD o (av fr x)
 | .fld o k g x=>fldD o k g (av fr x)
 | .ia k x i=>iaD k (av fr x) (av fr i)
 | .iaa n k x i=>iaaD n k (av fr x) (av fr i)
 | .ixs x i=>ixsD (av fr x) (av fr i)
 | .lk kk ok z m key=>lkD' kk ok z S (av fr m) (av fr key)
 | .ext x j=>extD (av fr x) j
 | .len str x=>lenD str (av fr x)
 | .mx x y=>mxD (av fr x) (av fr y)
 | .mn x y=>mnD (av fr x) (av fr y)
 | .cmps x y=>cmpsD (av fr x) (av fr y)
 | .call g _ args=>isoCall cf g (avs fr args)
 | .calld f _ args=>match fnD (av fr f) with
  | some p=>isoCall cf p.1 (avs fr args++p.2)
  | none=>none
 | _=>none
def wpR:R→(D→Store→Prop)→Prop
 | .mv x,K=>K (av fr x) S
 | .mkfn g cs,K=>K (.fn g (avs fr cs)) S
 | .alloc z,K=>K (.bx S.length 0) (.box z::S)
 | .mkmap,K=>K (.mp S.length) (.map []::S)
 | .box k g x,K=>OX (cellsK k g (av fr x)) fun cs=>K (.bx S.length 0) (.box cs::S)
 | .bld z ps,K=>OX (bldV z (avP fr ps)) fun cs=>K (.agg cs) S
 | .bsl k g own xs,K=>match own with
  | false=>OX (cellsV k g (avs fr xs)) fun l=>K (.sl k false l .ro) S
  | true=>OX (cellsV k g (avs fr xs)) fun l=>K (bslO k l S).1 (bslO k l S).2
 | .bsa k g xs,K=>OX (cellsV k g (avs fr xs)) fun l=>K (.ar k S.length 0 l.length) (.box l.flatten::S)
 | .st k g a v,K=>OX (stD S k g (av fr a) (av fr v)) fun S'=>K (.tup []) S'
 | .mksl k arr z n,K=>OX (mkslV k arr z S (av fr n)) fun p=>K p.1 p.2
 | .mu kk m key v,K=>OX (muD' kk S (av fr m) (av fr key) (av fr v)) fun S'=>K (.tup []) S'
 | .app k arr x y,K=>OX (appD k arr (av fr x) (av fr y) S) fun p=>K p.1 p.2
 | .clr k z x,K=>OX (clrD k z S (av fr x)) fun S'=>K (.tup []) S'
 | .call g iso args,K=>match iso with
  | true=>OX (isoCall cf g (avs fr args)) fun d=>K d S
  | false=>OX (cf g (avs fr args) S) fun p=>K p.1 p.2
 | .calld f iso args,K=>match iso with
  | true=>OX (fnD (av fr f)) fun q=>OX (isoCall cf q.1 (avs fr args++q.2)) fun d=>K d S
  | false=>OX (fnD (av fr f)) fun q=>OX (cf q.1 (avs fr args++q.2) S) fun p=>K p.1 p.2
 | .ment kk z m key,K=>OX (mentV kk z S (av fr m) (av fr key)) fun p=>K p.1 p.2
 | .est m j v,K=>OX (estV S (av fr m) (av fr j) (av fr v)) fun S'=>K (.tup []) S'
 | r,K=>OX (rV cf fr S r) fun d=>K d S
end
def al (z:List D) (S:Store) (K:D→Store→Prop):Prop:=K (.bx S.length 0) (.box z::S)
def mm (S:Store) (K:D→Store→Prop):Prop:=K (.mp S.length) (.map []::S)
def jn {α:Type} (K:α) (X:α→Prop):Prop:=X K
def mkf (n:Nat):List (Nat × D)→List D
 | []=>List.replicate n .top
 | (i,v)::l=>fset (mkf n l) i v
def gsel (d:D) (w:Bool) (o:Option D):Option D:=match d with
 | .b x=>if x=w then o else some (.tup [])
 | .tup []=>some (.tup [])
 | _=>none
def gselS (d:D) (w:Bool) (S:Store) (o:Option (D × Store)):Option (D × Store):=match d with
 | .b x=>if x=w then o else some (.tup [],S)
 | .tup []=>some (.tup [],S)
 | _=>none
@[simp] theorem gsel_tt (o:Option D):gsel (.b true) true o=o:=(rfl)
@[simp] theorem gsel_ff (o:Option D):gsel (.b false) false o=o:=(rfl)
@[simp] theorem gsel_tf (o:Option D):gsel (.b true) false o=some (.tup []):=(rfl)
@[simp] theorem gsel_ft (o:Option D):gsel (.b false) true o=some (.tup []):=(rfl)
@[simp] theorem gsel_skip (w:Bool) (o:Option D):gsel (.tup []) w o=some (.tup []):=(rfl)
@[simp] theorem gselS_tt (S:Store) (o:Option (D × Store)):gselS (.b true) true S o=o:=(rfl)
@[simp] theorem gselS_ff (S:Store) (o:Option (D × Store)):gselS (.b false) false S o=o:=(rfl)
@[simp] theorem gselS_tf (S:Store) (o:Option (D × Store)):gselS (.b true) false S o=some (.tup [],S):=(rfl)
@[simp] theorem gselS_ft (S:Store) (o:Option (D × Store)):gselS (.b false) true S o=some (.tup [],S):=(rfl)
@[simp] theorem gselS_skip (w:Bool) (S:Store) (o:Option (D × Store)):gselS (.tup []) w S o=some (.tup [],S):=(rfl)
def setF:List D→Nat→D→(List D→Prop)→Prop
 | [],_,_,K=>K []
 | _::l,0,v,K=>K (v::l)
 | d::l,n+1,v,K=>setF l n v fun l'=>K (d::l')
def setO (fr:List D) (dst:Option Nat) (d:D) (K:List D→Prop):Prop:=match dst with
 | none=>K fr
 | some t=>setF fr t d K
def killF:List D→List Nat→(List D→Prop)→Prop
 | fr,[],K=>K fr
 | fr,t::l,K=>setF fr t .top fun fr'=>killF fr' l K
def frc:List D→(List D→Prop)→Prop
 | [],K=>K []
 | d::l,K=>frc l fun l'=>K (d::l')
theorem setF_eq:∀ (fr:List D) (t:Nat) (d:D) (K:List D→Prop),setF fr t d K=K (fset fr t d)
 | [],_,_,_=>rfl
 | _::_,0,_,_=>rfl
 | _::l,n+1,v,K=>by simp only [setF,fset];exact setF_eq l n v _
theorem setO_eq (fr:List D) (dst:Option Nat) (d:D) (K:List D→Prop):setO fr dst d K=K (fsetO fr dst d):=by
 cases dst with
 | none=>rfl
 | some t=>exact setF_eq fr t d K
theorem killF_eq:∀ (l:List Nat) (fr:List D) (K:List D→Prop),killF fr l K=K (fkill fr l)
 | [],_,_=>rfl
 | t::l,fr,K=>by simp only [killF,setF_eq,fkill];exact killF_eq l _ K
theorem frc_eq:∀ (fr:List D) (K:List D→Prop),frc fr K=K fr
 | [],_=>rfl
 | d::l,K=>by simp only [frc];exact frc_eq l _
def wpI (cf:CallF):List I→List D→Store→(List D→Store→Prop)→Prop
 | [],fr,S,Q=>Q fr S
 | .op dst none r::is,fr,S,Q=>wpR cf fr S r fun d S'=>setO fr dst d fun fr'=>wpI cf is fr' S' Q
 | .op dst (some (t,w)) r::is,fr,S,Q=>match isV r with
  | true=>OX (gsel (fget fr t) w (rV cf fr S r)) fun d=>setO fr dst d fun fr'=>wpI cf is fr' S Q
  | false=>OX (gselS (fget fr t) w S (evR cf fr S r)) fun p=>setO fr dst p.1 fun fr'=>wpI cf is fr' p.2 Q
 | .fz t::is,fr,S,Q=>OX (fzD (fget fr t) S) fun p=>setF fr t p.1 fun fr'=>wpI cf is fr' p.2 Q
 | .ck t r::is,fr,S,Q=>match isV r with
  | true=>OX (rV cf fr S r) fun d=>deq d (fget fr t)=true∧wpI cf is fr S Q
  | false=>OX (evR cf fr S r) fun p=>deq p.1 (fget fr t)=true∧wpI cf is fr S Q
def wp (cf:CallF):C→List D→Store→(Ex→List D→Store→Prop)→Prop
 | .skip,fr,S,Q=>Q .normal fr S
 | .reg is kl,fr,S,Q=>wpI cf is fr S fun fr' S'=>killF fr' kl fun fr2=>Q .normal fr2 S'
 | .dreg is kl,fr,S,Q=>wpI cf (snds is) fr S fun fr' S'=>killF fr' kl fun fr2=>Q .normal fr2 S'
 | .seq a b,fr,S,Q=>wp cf a fr S (Qseq (fun fr' S'=>wp cf b fr' S' Q) Q)
 | .cond c a b,fr,S,Q=>WB (av fr c) (wp cf a fr S Q) (wp cf b fr S Q)
 | .blk id a,fr,S,Q=>wp cf a fr S (Qblk id Q)
 | .loop kl a,fr,S,Q=>W cf (.loop kl a) fr S Q
 | .exit id,fr,S,Q=>Q (.exit id) fr S
 | .ret,fr,S,Q=>Q .ret fr S
 | .bad,_,_,_=>False
section
variable {cf:CallF} {fr fr':List D} {S S':Store}
theorem bldV_eq:∀ (ps:List (Nat × Nat × Bool × A)) (z:List D),bldV z (avP fr ps)=bldD fr z ps
 | [],_=>rfl
 | (o,k,g,x)::ps,z=>by
  simp only [avP,bldV,bldD]
  cases cellsK k g (av fr x) with
  | none=>rfl
  | some cs=>
   simp only
   split
   ·exact bldV_eq ps _
   ·rfl
theorem cellsV_eq (k:Nat) (g:Bool):∀ (xs:List A),cellsV k g (avs fr xs)=cellsAll fr k g xs
 | []=>rfl
 | x::xs=>by
  simp only [avs,cellsV,cellsAll,cellsV_eq k g xs]
  all_goals (cases cellsK k g (av fr x) <;> cases cellsAll fr k g xs <;> rfl)
theorem rV_eq {r:R} (h:isV r=true):evR cf fr S r=(rV cf fr S r).map fun d=>(d,S):=by
 cases r <;> simp only [isV] at h <;> (try (cases h;done)) <;> simp only [evR,rV]
 case mv x=>rfl
 case nilck x=>cases av fr x <;> rfl
 case pick c a b=>
  cases av fr c <;> rfl
 case bld z ps=>rw [bldV_eq];cases bldD fr z ps <;> rfl
 case bsl k g own xs=>
  rw [cellsV_eq]
  have:own=false:=by simpa using h
  subst this
  cases cellsAll fr k g xs <;> rfl
 case conv k x=>cases av fr x <;> rfl
 case mkfn g cs=>rfl
 case fa o x=>cases av fr x <;> rfl
 case fld o k g x=>cases av fr x <;> rfl
 case iaa n k x i=>
  cases av fr x <;> try rfl
  cases av fr i <;> try rfl
  simp only [iaaD]
  split <;> rfl
 case ixs x i=>
  cases av fr x <;> try rfl
  cases av fr i <;> try rfl
  rename_i l k m
  simp only [ixsD]
  split
  ·cases l[m.toNat]? <;> rfl
  ·rfl
 case lk kk ok z m key=>
  simp only [lkD']
  split
  ·cases av fr m <;> try rfl
   rename_i id
   simp only
   cases sget S id with
   | none=>rfl
   | some e=>
    cases e <;> try rfl
    rename_i es
    simp only
    cases lkD kk (av fr key) es with
    | none=>rfl
    | some r=>cases r <;> rfl
  ·rfl
 case ext x j=>cases av fr x <;> rfl
 case len str x=>cases str <;> cases av fr x <;> rfl
 case mx x y=>
  cases av fr x <;> try rfl
  cases av fr y <;> try rfl
  simp only [mxD]
  split <;> rfl
 case mn x y=>
  cases av fr x <;> try rfl
  cases av fr y <;> try rfl
  simp only [mnD]
  split <;> rfl
 case call g iso args=>subst h;rfl
 case calld f iso args=>subst h;cases av fr f <;> rfl
 case cmps x y=>
  cases av fr x <;> try rfl
  cases av fr y <;> rfl
theorem OX_map {α β:Type} (o:Option α) (f:α→β) (K:β→Prop):OX (o.map f) K=OX o fun x=>K (f x):=by cases o <;> rfl
theorem wpR_eq (r:R) (K:D→Store→Prop):wpR cf fr S r K=OX (evR cf fr S r) fun p=>K p.1 p.2:=by
 have v:∀ r,isV r=true→(OX (rV cf fr S r) fun d=>K d S)=OX (evR cf fr S r) fun p=>K p.1 p.2:=by
  intro r h
  rw [rV_eq h,OX_map]
 cases r <;> try exact v _ rfl
 case mv x=>rfl
 case mkfn g cs=>rfl
 case alloc z=>rfl
 case mkmap=>rfl
 case box k g x=>simp only [wpR,evR,OX_map]
 case bld z ps=>rw [←v _ rfl];simp only [wpR,rV,OX_map]
 case bsl k g own xs=>
  cases own with
  | false=>rw [←v _ rfl];simp only [wpR,rV,OX_map]
  | true=>
   simp only [wpR,evR,cellsV_eq,OX_map,if_true]
   rfl
 case bsa k g xs=>simp only [wpR,evR,cellsV_eq,OX_map]
 case st k g a x=>simp only [wpR,evR,OX_map]
 case mksl k arr z n=>
  simp only [wpR,evR]
  cases av fr n <;> rfl
 case mu kk m key x=>
  simp only [wpR,evR,muD']
  split
  ·cases av fr m <;> try rfl
   rename_i id
   simp only
   cases sget S id with
   | none=>rfl
   | some e=>
    cases e <;> try rfl
    simp only [OX_map]
  ·rfl
 case ment kk z m key=>rfl
 case est m j x=>
  simp only [wpR,evR,estV]
  cases av fr m <;> try rfl
  cases av fr j <;> try rfl
  rename_i id k n
  simp only
  cases sget S id with
  | none=>rfl
  | some e=>
   cases e <;> try rfl
   simp only
   split <;> rfl
 case app k arr x y=>rfl
 case clr k z x=>
  simp only [wpR,evR,clrD]
  cases av fr x <;> try rfl
  ·rename_i k' nl xs ow
   cases xs <;> rfl
  ·rename_i k' id o n
   simp only
   split
   ·cases sget S id with
    | none=>rfl
    | some e=>
     cases e <;> try rfl
     simp only
     split <;> rfl
   ·rfl
 case call g iso args=>
  cases iso with
  | true=>rw [←v _ rfl];rfl
  | false=>rfl
 case calld f iso args=>
  cases iso with
  | true=>
   rw [←v _ rfl]
   simp only [wpR,rV]
   cases fnD (av fr f) <;> rfl
  | false=>
   simp only [wpR,evR,callR]
   cases av fr f <;> rfl
theorem wpI_eq (Q:List D→Store→Prop):∀ (is:List I) (fr:List D) (S:Store),wpI cf is fr S Q=WI cf is fr S Q
 | [],_,_=>rfl
 | .op dst none r::is,fr,S=>by
  rw [WI_op]
  simp only [wpI,wpR_eq,setO_eq]
  cases evR cf fr S r with
  | none=>rfl
  | some p=>exact wpI_eq Q is _ _
 | .op dst (some (t,w)) r::is,fr,S=>by
  have e:wpI cf (.op dst (some (t,w)) r::is) fr S Q=OX (gselS (fget fr t) w S (evR cf fr S r)) fun p=>wpI cf is (fsetO fr dst p.1) p.2 Q:=by
   simp only [wpI,setO_eq]
   split
   ·rename_i h
    rw [rV_eq h]
    cases hd:fget fr t <;> try rfl
    ·simp only [gsel,gselS]
     split
     ·rw [OX_map]
     ·rfl
    ·rename_i l
     cases l <;> rfl
   ·rfl
  rw [e,WI_gd]
  generalize fget fr t=d
  cases d <;> try rfl
  ·rename_i x
   simp only [gselS,WG]
   split
   ·cases evR cf fr S r with
    | none=>rfl
    | some p=>exact wpI_eq Q is _ _
   ·exact wpI_eq Q is _ _
  ·rename_i l
   cases l with
   | nil=>exact wpI_eq Q is _ _
   | cons _ _=>rfl
 | .fz t::is,fr,S=>by
  rw [WI_fz]
  simp only [wpI,setF_eq]
  cases fzD (fget fr t) S with
  | none=>rfl
  | some p=>exact wpI_eq Q is _ _
 | .ck t r::is,fr,S=>by
  have e:wpI cf (.ck t r::is) fr S Q=OX (evR cf fr S r) fun p=>deq p.1 (fget fr t)=true∧wpI cf is fr S Q:=by
   simp only [wpI]
   split
   ·rename_i h
    rw [rV_eq h,OX_map]
   ·rfl
  rw [e]
  simp only [WI,evI]
  cases evR cf fr S r with
  | none=>rfl
  | some p=>
   simp only [OX]
   rw [wpI_eq Q is]
   by_cases h:deq p.1 (fget fr t)=true
   ·simp [h]
   ·have:deq p.1 (fget fr t)=false:=by simpa using h
    simp [this]
theorem wp_W:∀ (c:C) (fr:List D) (S:Store) (Q:Ex→List D→Store→Prop),wp cf c fr S Q=W cf c fr S Q
 | .skip,fr,S,Q=>by rw [W_skip];rfl
 | .reg is kl,fr,S,Q=>by rw [W_reg,←wpI_eq];simp only [wp,killF_eq]
 | .dreg is kl,fr,S,Q=>by rw [W_dreg,propext (WD_WI _ is fr S),←wpI_eq];simp only [wp,killF_eq]
 | .seq a b,fr,S,Q=>by
  rw [W_seq,←wp_W a]
  have:(fun fr S=>W cf b fr S Q)=fun fr S=>wp cf b fr S Q:=by funext fr S;rw [wp_W b]
  rw [this];rfl
 | .cond c a b,fr,S,Q=>by rw [W_cond,←wp_W a,←wp_W b];rfl
 | .blk id a,fr,S,Q=>by rw [W_blk,←wp_W a];rfl
 | .loop kl a,fr,S,Q=>rfl
 | .exit id,fr,S,Q=>by rw [W_exit];rfl
 | .ret,fr,S,Q=>by rw [W_ret];rfl
 | .bad,fr,S,Q=>by simp [wp,W,execL]
end
end Go.Proofs.YtjniafcnjbbomaaGreatDoor.DE

namespace Go.Proofs.YtjniafcnjbbomaaGreatDoor.DE
open Go
def QS (cf:CallF) (b:C) (Q:Ex→List D→Store→Prop):Ex→List D→Store→Prop:=Qseq (fun fr S=>wp cf b fr S Q) Q
@[congr] theorem QS_congr {cf:CallF} {b:C} {Q:Ex→List D→Store→Prop} {ex ex':Ex} {fr fr':List D} {S S':Store} (e:ex=ex') (h:fr=fr') (k:S=S'):QS cf b Q ex fr S=QS cf b Q ex' fr' S':=by rw [e,h,k]
@[simp] theorem QS_normal (cf:CallF) (b:C) (Q:Ex→List D→Store→Prop) (fr:List D) (S:Store):QS cf b Q .normal fr S=wp cf b fr S Q:=(rfl)
@[simp] theorem QS_exit (cf:CallF) (b:C) (Q:Ex→List D→Store→Prop) (id:Nat) (fr:List D) (S:Store):QS cf b Q (.exit id) fr S=Q (.exit id) fr S:=(rfl)
@[simp] theorem QS_ret (cf:CallF) (b:C) (Q:Ex→List D→Store→Prop) (fr:List D) (S:Store):QS cf b Q .ret fr S=Q .ret fr S:=(rfl)
def wpS (cf:CallF) (c:C) (fr:List D) (S:Store) (Q:Ex→List D→Store→Prop):Prop:=frc fr fun fr'=>wp cf c fr' S Q
theorem wpS_eq (cf:CallF) (c:C) (fr:List D) (S:Store) (Q:Ex→List D→Store→Prop):wpS cf c fr S Q=wp cf c fr S Q:=frc_eq fr _
theorem wpS_of {cf:CallF} {c:C} {fr:List D} {S:Store} {Q:Ex→List D→Store→Prop} {X:Prop} (h:wpS cf c fr S Q=X):wp cf c fr S Q=X:=(wpS_eq cf c fr S Q).symm.trans h
@[congr] theorem wp_congr {cf:CallF} {c:C} {Q:Ex→List D→Store→Prop} {fr fr':List D} {S S':Store} (h:fr=fr') (k:S=S'):wp cf c fr S Q=wp cf c fr' S' Q:=by rw [h,k]
@[simp] theorem wp_skip (cf:CallF) (Q:Ex→List D→Store→Prop) (fr:List D) (S:Store):wp cf .skip fr S Q=Q .normal fr S:=(rfl)
@[simp] theorem wp_ret (cf:CallF) (Q:Ex→List D→Store→Prop) (fr:List D) (S:Store):wp cf .ret fr S Q=Q .ret fr S:=(rfl)
@[simp] theorem wp_exit (cf:CallF) (Q:Ex→List D→Store→Prop) (id:Nat) (fr:List D) (S:Store):wp cf (.exit id) fr S Q=Q (.exit id) fr S:=(rfl)
attribute [simp] Qseq_normal Qseq_exit Qseq_ret Qblk_normal Qblk_ret Qblk_same Qblk_other
def ldc (S:Store) (k:Nat) (g:Bool):D→Option D
 | .bx id o=>ldD S k g (.bx id o)
 | _=>none
def finR (fr:List D) (S:Store):List Res→(List D→Prop)→Prop
 | [],K=>K []
 | .t n::l,K=>finR fr S l fun m=>K (fget fr n::m)
 | .cell n k g::l,K=>OX (ldc S k g (fget fr n)) fun d=>finR fr S l fun m=>K (d::m)
theorem finR_eq (fr:List D) (S:Store):∀ (l:List Res) (K:List D→Prop),finR fr S l K=match resL fr S l with | some m=>K m | none=>False
 | [],K=>rfl
 | .t n::l,K=>by
  simp only [finR,resL,res1,finR_eq fr S l]
  cases resL fr S l <;> rfl
 | .cell n k g::l,K=>by
  have e:res1 fr S (.cell n k g)=ldc S k g (fget fr n):=by
   simp only [res1]
   cases fget fr n <;> rfl
  simp only [finR,resL,e,finR_eq fr S l]
  cases ldc S k g (fget fr n) <;> cases resL fr S l <;> rfl
def FinK (res:List Res) (Post:D→Store→Prop):Ex→List D→Store→Prop
 | .exit _,_,_=>False
 | _,fr,S=>finR fr S res fun l=>Post (resD l) S
@[congr] theorem FinK_congr {res:List Res} {Post:D→Store→Prop} {ex ex':Ex} {fr fr':List D} {S S':Store} (e:ex=ex') (h:fr=fr') (k:S=S'):FinK res Post ex fr S=FinK res Post ex' fr' S':=by rw [e,h,k]
@[simp] theorem FinK_ret1 (n:Nat) (Post:D→Store→Prop) (fr:List D) (S:Store):FinK [.t n] Post .ret fr S=Post (fget fr n) S:=(rfl)
@[simp] theorem FinK_ret2 (n m:Nat) (Post:D→Store→Prop) (fr:List D) (S:Store):FinK [.t n,.t m] Post .ret fr S=Post (.tup [fget fr n,fget fr m]) S:=(rfl)
@[simp] theorem FinK_normal (res:List Res) (Post:D→Store→Prop) (fr:List D) (S:Store):FinK res Post .normal fr S=FinK res Post .ret fr S:=(rfl)
@[simp] theorem FinK_cell1 (n k:Nat) (g:Bool) (Post:D→Store→Prop) (fr:List D) (S:Store):FinK [.cell n k g] Post .ret fr S=OX (ldc S k g (fget fr n)) fun d=>Post d S:=(rfl)
theorem FinK_Fin (f:Fn) (Post:D→Store→Prop) (ex:Ex) (fr:List D) (S:Store) (h:FinK f.res Post ex fr S):Fin f Post ex fr S:=by
 cases ex with
 | exit id=>exact h
 | normal=>simp only [FinK,finR_eq] at h;exact h
 | ret=>simp only [FinK,finR_eq] at h;exact h
def bxx (k:Nat) (g:Bool) (x:D) (S:Store) (K:D→Store→Prop):Prop:=OX (cellsK k g x) fun cs=>K (.bx S.length 0) (.box cs::S)
theorem stripL_len:∀ l:List D,(stripL l).length=l.length
 | []=>rfl
 | _::l=>by simp [stripL,stripL_len l]
section
variable {dp:Nat→Option Fn}
theorem call_s {g:Nat} {f:Fn} {args:List D} {S:Store} {Post:D→Store→Prop} (hg:dp g=some f) (hn:args.length=f.np∧f.np≤f.nt)
  (h:wp (call dp) f.body (frame0 f args) S (FinK f.res Post)):∃ r S',call dp g args S=some (r,S')∧Post r S':=by
 rw [wp_W] at h
 exact call_W hg hn (W_mono h (FinK_Fin f Post))
theorem iso_s {g:Nat} {f:Fn} {args:List D} {r:D} (hg:dp g=some f) (hn:args.length=f.np∧f.np≤f.nt) (ha:noRefL (stripL args)=true) (hr:noRef r=true)
  (h:wp (call dp) f.body (frame0 f (stripL args)) [] (FinK f.res fun d _=>stripT d=r)):isoCall (call dp) g args=some r:=by
 rw [wp_W] at h
 exact iso_W hg hn ha hr (W_mono h (FinK_Fin f _))
theorem iso_x {g:Nat} {f:Fn} {args:List D} {Post:D→Prop} (hg:dp g=some f) (hn:args.length=f.np∧f.np≤f.nt) (ha:noRefL (stripL args)=true) (hr:∀ r,Post r→noRef r=true)
  (h:wp (call dp) f.body (frame0 f (stripL args)) [] (FinK f.res fun d _=>Post (stripT d))):∃ r,isoCall (call dp) g args=some r∧Post r:=by
 obtain ⟨d,S',e,hp⟩:=call_s (Post:=fun d _=>Post (stripT d)) hg (by rw [stripL_len];exact hn) h
 exact ⟨_,by simp only [isoCall,ha,if_true,e,hr _ hp],hp⟩
end
theorem fset_len:∀ (l:List D) (i:Nat) (v:D),(fset l i v).length=l.length
 | [],_,_=>rfl
 | _::_,0,_=>rfl
 | _::l,i+1,v=>by simp [fset,fset_len l i v]
theorem mkf_len (n:Nat):∀ l,(mkf n l).length=n
 | []=>by simp [mkf]
 | (i,v)::l=>by rw [mkf,fset_len,mkf_len n l]
theorem fget_fset_same:∀ (l:List D) (i:Nat) (v:D),i<l.length→fget (fset l i v) i=v
 | [],_,_,h=>by simp at h
 | _::_,0,_,_=>rfl
 | _::l,i+1,v,h=>by simp only [fset,fget];exact fget_fset_same l i v (by simpa using h)
theorem fget_fset_ne:∀ (l:List D) (i j:Nat) (v:D),i≠j→fget (fset l i v) j=fget l j
 | [],_,_,_,_=>rfl
 | _::_,0,0,_,h=>absurd rfl h
 | _::_,0,_+1,_,_=>rfl
 | _::_,_+1,0,_,_=>rfl
 | _::l,i+1,j+1,v,h=>by simp only [fset,fget];exact fget_fset_ne l i j v (by omega)
@[simp] theorem fget_mkf_hit (n i:Nat) (v:D) (l:List (Nat × D)) (h:i<n):fget (mkf n ((i,v)::l)) i=v:=by
 rw [mkf];exact fget_fset_same _ _ _ (by rw [mkf_len];exact h)
@[simp] theorem fget_mkf_miss (n i j:Nat) (v:D) (l:List (Nat × D)) (h:(i == j)=false):fget (mkf n ((i,v)::l)) j=fget (mkf n l) j:=by
 rw [mkf];exact fget_fset_ne _ _ _ _ (by simpa using h)
@[simp] theorem WB_b (c:Bool) (X Y:Prop):WB (.b c) X Y=if c=true then X else Y:=by cases c <;> rfl
@[congr] theorem jn_congr {α:Type} {K:α} {X:α→Prop}:jn K X=jn K X:=rfl
end Go.Proofs.YtjniafcnjbbomaaGreatDoor.DE

namespace Go.Proofs.YtjniafcnjbbomaaGreatDoor.DE.V
open Go
theorem sget_lt {α:Type} {e:α}:∀ {S:List α} {id:Nat},sget S id=some e→id<S.length
 | [],_,h=>by simp [sget] at h
 | x::S,id,h=>by
  simp only [sget] at h
  split at h
  ·rename_i q;simp [q]
  ·have:=sget_lt h;simp;omega
@[simp] theorem sget_top {α:Type} (e:α) (S:List α):sget (e::S) S.length=some e:=by simp [sget]
theorem sget_push {α:Type} {e x:α} {S:List α} {id:Nat} (h:sget S id=some x):sget (e::S) id=some x:=by
 have:=sget_lt h
 simp only [sget]
 rw [if_neg (by omega)];exact h
@[simp] theorem sset_top {α:Type} (e x:α) (S:List α):sset (e::S) S.length x=x::S:=by simp [sset]
theorem sset_len {α:Type} (x:α):∀ (S:List α) (id:Nat),(sset S id x).length=S.length
 | [],_=>rfl
 | e::S,id=>by
  simp only [sset]
  split
  ·rfl
  ·simp [sset_len x S id]
theorem sget_sset {α:Type} (x:α):∀ {S:List α} {id:Nat},id<S.length→sget (sset S id x) id=some x
 | [],_,h=>by simp at h
 | e::S,id,h=>by
  simp only [sset]
  split
  ·rename_i q;simp [sget,q]
  ·rename_i q
   simp only [sget,sset_len]
   rw [if_neg q]
   exact sget_sset x (by simp at h;omega)
theorem sget_sset_ne {α:Type} (x:α):∀ {S:List α} {id j:Nat},j≠id→sget (sset S id x) j=sget S j
 | [],_,_,_=>rfl
 | e::S,id,j,h=>by
  simp only [sset]
  split
  ·rename_i q
   subst q
   simp [sget,h]
  ·simp only [sget,sset_len]
   rw [sget_sset_ne x h]
@[simp high] theorem OX_b (c:Bool) (K:D→Prop):OX (some (.b c)) K=if c=true then K (.b true) else K (.b false):=by cases c <;> rfl
def in64 (n:Int):Prop:=-9223372036854775808≤n∧n≤9223372036854775807
abbrev Row:=Int × Int
abbrev Nd:=Int × Int × Int
def eRow (r:Row):List D:=[.i .i64 r.1,.i .i64 r.2]
def eNd (x:Nd):List D:=[.i .i64 x.1,.i .i64 x.2.1,.i .i64 x.2.2]
def eRows (nl:Bool) (l:List Row):D:=.sl 2 nl (l.map eRow) .ro
def eNds (nl:Bool) (l:List Nd):D:=.sl 3 nl (l.map eNd) .ro
def eB (nl nl':Bool) (ord:List Row) (ns:List Nd) (root:Int):D:=.agg [eRows nl ord,eNds nl' ns,.i .i64 root]
def okRow (r:Row):Prop:=in64 r.1∧in64 r.2
def okNd64 (r:Nd):Prop:=in64 r.1∧in64 r.2.1∧in64 r.2.2
def rowOk (r:Row):Bool:=decide (1≤r.1)&&decide (1≤r.2)
theorem noRefL_eRow (r:Row):noRefL (eRow r)=true:=rfl
theorem noRefL_eNd (r:Nd):noRefL (eNd r)=true:=rfl
theorem noRefLL_map {α:Type} (f:α→List D) (h:∀ x,noRefL (f x)=true):∀ l:List α,noRefLL (l.map f)=true
 | []=>rfl
 | x::l=>by simp [noRefLL,h x,noRefLL_map f h l]
@[simp] theorem noRef_eRows (nl:Bool) (l:List Row):noRef (eRows nl l)=true:=by simp [eRows,noRef,noRefLL_map eRow noRefL_eRow l]
@[simp] theorem noRef_eNds (nl:Bool) (l:List Nd):noRef (eNds nl l)=true:=by simp [eNds,noRef,noRefLL_map eNd noRefL_eNd l]
@[simp] theorem noRef_eB (nl nl':Bool) (ord:List Row) (ns:List Nd) (root:Int):noRef (eB nl nl' ord ns root)=true:=by simp [eB,noRef,noRefL]
@[simp] theorem noRef_row (r:Row):noRef (.agg (eRow r))=true:=(rfl)
@[simp] theorem noRef_nd (r:Nd):noRef (.agg (eNd r))=true:=(rfl)
@[simp] theorem strip_eRows (nl:Bool) (l:List Row):strip (eRows nl l)=eRows nl l:=(rfl)
@[simp] theorem strip_eNds (nl:Bool) (l:List Nd):strip (eNds nl l)=eNds nl l:=(rfl)
@[simp] theorem strip_eB (nl nl':Bool) (ord:List Row) (ns:List Nd) (root:Int):strip (eB nl nl' ord ns root)=eB nl nl' ord ns root:=(rfl)
@[simp] theorem strip_row (r:Row):strip (.agg (eRow r)) = .agg (eRow r):=(rfl)
@[simp] theorem strip_nd (r:Nd):strip (.agg (eNd r)) = .agg (eNd r):=(rfl)
@[simp] theorem strip_i (k:IntKind) (n:Int):strip (.i k n) = .i k n:=(rfl)
@[simp] theorem strip_b (n:Bool):strip (.b n) = .b n:=(rfl)
@[simp] theorem stripT_eRows (nl:Bool) (l:List Row):stripT (eRows nl l)=eRows nl l:=(rfl)
@[simp] theorem stripT_eNds (nl:Bool) (l:List Nd):stripT (eNds nl l)=eNds nl l:=(rfl)
@[simp] theorem stripT_eB (nl nl':Bool) (ord:List Row) (ns:List Nd) (root:Int):stripT (eB nl nl' ord ns root)=eB nl nl' ord ns root:=(rfl)
@[simp] theorem stripT_i (k:IntKind) (n:Int):stripT (.i k n) = .i k n:=(rfl)
@[simp] theorem stripT_b (n:Bool):stripT (.b n) = .b n:=(rfl)
@[simp] theorem noRef_i (k:IntKind) (n:Int):noRef (.i k n)=true:=(rfl)
@[simp] theorem noRef_b (n:Bool):noRef (.b n)=true:=(rfl)
theorem wrap64 {n:Int} (h:in64 n):IntKind.wrap .i64 n=n:=by
 obtain ⟨h1,h2⟩:=h
 rcases Int.lt_or_le n 0 with h | h
 ·have e:n % 18446744073709551616=n+18446744073709551616:=by omega
  simp [IntKind.wrap,IntKind.signed,IntKind.bits,e]
  omega
 ·have e:n % 18446744073709551616=n:=by omega
  simp [IntKind.wrap,IntKind.signed,IntKind.bits,e]
  omega
theorem lenD_rows (nl:Bool) (l:List Row):lenD false (eRows nl l)=some (.i .i64 l.length):=by simp [eRows,lenD]
theorem lenD_nds (nl:Bool) (l:List Nd):lenD false (eNds nl l)=some (.i .i64 l.length):=by simp [eNds,lenD]
theorem iaD_rows {nl:Bool} {l:List Row} {n:Nat} {r:Row} (k:IntKind) (h:l[n]? = some r):iaD 2 (eRows nl l) (.i k n)=some (.el (eRow r) 0):=by simp [eRows,iaD,h]
theorem iaD_nds {nl:Bool} {l:List Nd} {n:Nat} {r:Nd} (k:IntKind) (h:l[n]? = some r):iaD 3 (eNds nl l) (.i k n)=some (.el (eNd r) 0):=by simp [eNds,iaD,h]
theorem iaD_nds' {nl:Bool} {l:List Nd} {n:Int} {r:Nd} (k:IntKind) (h0:0≤n) (h:l[n.toNat]? = some r):iaD 3 (eNds nl l) (.i k n)=some (.el (eNd r) 0):=by simp [eNds,iaD,h,h0]
@[simp] theorem ldD_el_row (S:Store) (r:Row):ldD S 2 true (.el (eRow r) 0)=some (.agg (eRow r)):=by simp [ldD,rdK,eRow]
@[simp] theorem ldD_el_nd (S:Store) (r:Nd):ldD S 3 true (.el (eNd r) 0)=some (.agg (eNd r)):=by simp [ldD,rdK,eNd]
theorem seqL_row (r s:Row):seqL [.i,.i] (eRow r) (eRow s)=some (decide (r=s)):=by
 have:decide (r=s)=(r.1 == s.1&&r.2 == s.2):=by
  rw [Bool.eq_iff_iff];simp [Prod.ext_iff]
 simp [eRow,seqL,isSK,seq1,this]
theorem seqL_nd (r s:Nd):seqL [.i,.i,.i] (eNd r) (eNd s)=some (decide (r=s)):=by
 have:decide (r=s)=(r.1 == s.1&&(r.2.1 == s.2.1&&r.2.2 == s.2.2)):=by
  rw [Bool.eq_iff_iff];simp [Prod.ext_iff]
 simp [eNd,seqL,isSK,seq1,this]
theorem isKey_row (r:Row):isKey (.agg [.i,.i]) (.agg (eRow r))=true:=rfl
theorem isKey_nd (r:Nd):isKey (.agg [.i,.i,.i]) (.agg (eNd r))=true:=rfl
section
variable (k:IntKind) (a b:Int) (S:Store) (cs:List D) (id o p:Nat) (K:D→Store→Prop)
def ldE:Option Ent→Nat→Bool→Nat→Option D
 | some (.box cs),k,g,o=>rdK cs o k g
 | _,_,_,_=>none
@[simp] theorem ldD_bx (k:Nat) (g:Bool):ldD S k g (.bx id o)=ldE (sget S id) k g o:=by
 simp only [ldD,ldE]
 cases sget S id with
 | none=>rfl
 | some e=>cases e <;> rfl
@[simp] theorem ldE_box (k:Nat) (g:Bool):ldE (some (.box cs)) k g o=rdK cs o k g:=(rfl)
@[simp] theorem ldD_el (k:Nat) (g:Bool):ldD S k g (.el cs o)=rdK cs o k g:=(rfl)
@[simp] theorem rdK_one (k:Nat):rdK cs o k false=cs[o]?:=(rfl)
theorem rdK_all {cs:List D} {k:Nat} (h:cs.length=k):rdK cs 0 k true=some (.agg cs):=by
 subst h;simp [rdK]
@[simp] theorem rdK_row (r:Row):rdK (eRow r) 0 2 true=some (.agg (eRow r)):=rdK_all rfl
@[simp] theorem rdK_nd (r:Nd):rdK (eNd r) 0 3 true=some (.agg (eNd r)):=rdK_all rfl
@[simp] theorem rdK_lit1 (x:D):rdK [x] 0 1 true=some (.agg [x]):=(rfl)
@[simp] theorem rdK_lit2 (x y:D):rdK [x,y] 0 2 true=some (.agg [x,y]):=(rfl)
@[simp] theorem rdK_lit3 (x y z:D):rdK [x,y,z] 0 3 true=some (.agg [x,y,z]):=(rfl)
@[simp high] theorem row_0 (r:Row):(eRow r)[0]? = some (.i .i64 r.1):=(rfl)
@[simp high] theorem row_1 (r:Row):(eRow r)[1]? = some (.i .i64 r.2):=(rfl)
@[simp high] theorem nd_0 (r:Nd):(eNd r)[0]? = some (.i .i64 r.1):=(rfl)
@[simp high] theorem nd_1 (r:Nd):(eNd r)[1]? = some (.i .i64 r.2.1):=(rfl)
@[simp high] theorem nd_2 (r:Nd):(eNd r)[2]? = some (.i .i64 r.2.2):=(rfl)
@[simp] theorem row_len (r:Row):(eRow r).length=2:=(rfl)
@[simp] theorem nd_len (r:Nd):(eNd r).length=3:=(rfl)
@[simp] theorem allCell_row (r:Row):allCell (eRow r)=true:=(rfl)
@[simp] theorem allCell_nd (r:Nd):allCell (eNd r)=true:=(rfl)
@[simp] theorem isCell_rows (nl:Bool) (l:List Row):isCell (eRows nl l)=true:=(rfl)
@[simp] theorem isCell_nds (nl:Bool) (l:List Nd):isCell (eNds nl l)=true:=(rfl)
@[simp] theorem isCell_i:isCell (.i k a)=true:=(rfl)
@[simp] theorem isCell_b (c:Bool):isCell (.b c)=true:=(rfl)
@[simp] theorem isCell_bx:isCell (.bx id o)=true:=(rfl)
@[simp] theorem isCell_mp:isCell (.mp id)=true:=(rfl)
@[simp] theorem isCell_fn:isCell (.fn id cs)=true:=(rfl)
@[simp] theorem isCell_nilm:isCell .nilm=true:=(rfl)
@[simp] theorem isCell_sl (k:Nat) (n:Bool) (xs:List (List D)) (o:Own):isCell (.sl k n xs o)=true:=(rfl)
@[simp] theorem allCell_nil:allCell []=true:=(rfl)
@[simp] theorem allCell_cons (x:D):allCell (x::cs)=(isCell x&&allCell cs):=(rfl)
@[simp] theorem faD_bx:faD o (.bx id p)=some (.bx id (p+o)):=(rfl)
@[simp] theorem faD_el:faD o (.el cs p)=some (.el cs (p+o)):=(rfl)
theorem cellsK_agg {cs:List D} {k:Nat} (h:cs.length=k) (h':allCell cs=true):cellsK k true (.agg cs)=some cs:=by simp [cellsK,h,h']
@[simp] theorem cellsK_row (r:Row):cellsK 2 true (.agg (eRow r))=some (eRow r):=(rfl)
@[simp] theorem cellsK_nd (r:Nd):cellsK 3 true (.agg (eNd r))=some (eNd r):=(rfl)
@[simp] theorem cellsK_eB (nl nl':Bool) (ord:List Row) (ns:List Nd) (root:Int):cellsK 3 true (eB nl nl' ord ns root)=some [eRows nl ord,eNds nl' ns,.i .i64 root]:=(rfl)
@[simp] theorem cellsK_i (m:Nat):cellsK m false (.i k a)=some [.i k a]:=(rfl)
@[simp] theorem cellsK_b (m:Nat) (c:Bool):cellsK m false (.b c)=some [.b c]:=(rfl)
@[simp] theorem cellsK_bx (m:Nat):cellsK m false (.bx id o)=some [.bx id o]:=(rfl)
@[simp] theorem cellsK_mp (m:Nat):cellsK m false (.mp id)=some [.mp id]:=(rfl)
@[simp] theorem cellsK_fn (m:Nat):cellsK m false (.fn id cs)=some [.fn id cs]:=(rfl)
@[simp] theorem cellsK_rows (m:Nat) (nl:Bool) (l:List Row):cellsK m false (eRows nl l)=some [eRows nl l]:=(rfl)
@[simp] theorem cellsK_nds (m:Nat) (nl:Bool) (l:List Nd):cellsK m false (eNds nl l)=some [eNds nl l]:=(rfl)
@[simp] theorem cellsK_sl (m k:Nat) (n:Bool) (xs:List (List D)) (o:Own):cellsK m false (.sl k n xs o)=some [.sl k n xs o]:=(rfl)
@[simp] theorem cellsK_lit3 (x y z:D) (hx:isCell x=true) (hy:isCell y=true) (hz:isCell z=true):cellsK 3 true (.agg [x,y,z])=some [x,y,z]:=cellsK_agg rfl (by simp [hx,hy,hz])
@[simp] theorem cellsK_lit2 (x y:D) (hx:isCell x=true) (hy:isCell y=true):cellsK 2 true (.agg [x,y])=some [x,y]:=cellsK_agg rfl (by simp [hx,hy])
@[simp] theorem bxx_eq (k:Nat) (g:Bool) (x:D):bxx k g x S K=OX (cellsK k g x) fun cs=>K (.bx S.length 0) (.box cs::S):=(rfl)
@[simp] theorem al_eq (z:List D):al z S K=K (.bx S.length 0) (.box z::S):=(rfl)
@[simp] theorem mm_eq:mm S K=K (.mp S.length) (.map []::S):=(rfl)
@[simp] theorem bin_geq:binD .geq .num (.i k a) (.i k b)=some (.b (decide (b≤a))):=by simp [binD,intOp]
@[simp] theorem bin_leq:binD .leq .num (.i k a) (.i k b)=some (.b (decide (a≤b))):=by simp [binD,intOp]
@[simp] theorem bin_lss:binD .lss .num (.i k a) (.i k b)=some (.b (decide (a<b))):=by simp [binD,intOp]
@[simp] theorem bin_gtr:binD .gtr .num (.i k a) (.i k b)=some (.b (decide (b<a))):=by simp [binD,intOp]
@[simp] theorem bin_eql:binD .eql .num (.i k a) (.i k b)=some (.b (decide (a=b))):=by
 simp only [binD,intOp,if_true];congr 2
@[simp] theorem bin_neq:binD .neq .num (.i k a) (.i k b)=some (.b (!decide (a=b))):=by
 simp only [binD,intOp,if_true];congr 2
@[simp] theorem bin_add:binD .add .num (.i k a) (.i k b)=some (.i k (k.wrap (a+b))):=by simp [binD,intOp]
@[simp] theorem bin_sub:binD .sub .num (.i k a) (.i k b)=some (.i k (k.wrap (a-b))):=by simp [binD,intOp]
@[simp] theorem bin_beql (c d:Bool):binD .eql .bool (.b c) (.b d)=some (.b (c == d)):=(rfl)
@[simp] theorem bin_bneq (c d:Bool):binD .neq .bool (.b c) (.b d)=some (.b (!(c == d))):=(rfl)
@[simp] theorem bin_eql_row (r s:Row):binD .eql (.agg [.i,.i]) (.agg (eRow r)) (.agg (eRow s))=some (.b (decide (r=s))):=by simp only [binD,seqL_row,eqD]
@[simp] theorem bin_neq_row (r s:Row):binD .neq (.agg [.i,.i]) (.agg (eRow r)) (.agg (eRow s))=some (.b (!decide (r=s))):=by simp only [binD,seqL_row,eqD]
@[simp] theorem bin_eql_nd (r s:Nd):binD .eql (.agg [.i,.i,.i]) (.agg (eNd r)) (.agg (eNd s))=some (.b (decide (r=s))):=by simp only [binD,seqL_nd,eqD]
@[simp] theorem bin_neq_nd (r s:Nd):binD .neq (.agg [.i,.i,.i]) (.agg (eNd r)) (.agg (eNd s))=some (.b (!decide (r=s))):=by simp only [binD,seqL_nd,eqD]
@[simp] theorem bin_nil_rows (nl:Bool) (l:List Row) (m:Nat) (o:Own):binD .eql .sl (eRows nl l) (.sl m true [] o)=some (.b nl):=(rfl)
@[simp] theorem bin_nil_nds (nl:Bool) (l:List Nd) (m:Nat) (o:Own):binD .eql .sl (eNds nl l) (.sl m true [] o)=some (.b nl):=(rfl)
@[simp] theorem bin_mapnil:binD .eql .map (.mp id) .nilm=some (.b false):=(rfl)
@[simp] theorem bin_nilmap:binD .eql .map .nilm .nilm=some (.b true):=(rfl)
@[simp] theorem un_not (c:Bool):unD .not (.b c)=some (.b (!c)):=(rfl)
@[simp] theorem pick_t (x y:D):pickD (.b true) x y=some x:=(rfl)
@[simp] theorem pick_f (x y:D):pickD (.b false) x y=some y:=(rfl)
@[simp] theorem ext_eq (j:Nat):extD (.tup cs) j=cs[j]?:=(rfl)
@[simp] theorem fnD_fn:fnD (.fn id cs)=some (id,cs):=(rfl)
@[simp] theorem lenD_rows' (nl:Bool) (l:List Row):lenD false (eRows nl l)=some (.i .i64 l.length):=lenD_rows nl l
@[simp] theorem lenD_nds' (nl:Bool) (l:List Nd):lenD false (eNds nl l)=some (.i .i64 l.length):=lenD_nds nl l
@[simp] theorem lenD_sl (k:Nat) (n:Bool) (xs:List (List D)) (o:Own):lenD false (.sl k n xs o)=some (.i .i64 xs.length):=(rfl)
@[simp] theorem cellsV_nil (k:Nat) (g:Bool):cellsV k g []=some []:=(rfl)
@[simp] theorem cellsV_nd (r:Nd):cellsV 3 true [.agg (eNd r)]=some [eNd r]:=(rfl)
@[simp] theorem cellsV_row (r:Row):cellsV 2 true [.agg (eRow r)]=some [eRow r]:=(rfl)
@[simp] theorem cellsV_i:cellsV 1 false [.i k a]=some [[.i k a]]:=(rfl)
@[simp] theorem cellsV_b (c:Bool):cellsV 1 false [.b c]=some [[.b c]]:=(rfl)
@[simp] theorem bslO_nil (k:Nat):bslO k [] S=(.sl k false [] .cap0,S):=(rfl)
theorem app_cap0 {k:Nat} {n n':Bool} {ys:List (List D)} {o:Own} (h:ys.length≤maxLenD):appD k false (.sl k n [] .cap0) (.sl k n' ys o) S=some (if ys=[] then (.sl k n [] .cap0,S) else (.sl k false ys (.tok S.length),.tok true::S)):=by
 simp only [appD,List.length_nil,Nat.zero_add,h,and_self,true_or,if_true]
 cases ys <;> rfl
theorem app_nil {k:Nat} {n':Bool} {ys:List (List D)} {o o':Own} (h:ys.length≤maxLenD) (ho:∀ t,o ≠ .tok t):appD k false (.sl k true [] o) (.sl k n' ys o') S=some (if ys=[] then (.sl k true [] o,S) else (.sl k false ys (.tok S.length),.tok true::S)):=by
 simp only [appD,List.length_nil,Nat.zero_add,h,and_self,true_or,if_true]
 cases o with
 | tok t=>exact absurd rfl (ho t)
 | ro=>cases ys <;> rfl
 | cap0=>cases ys <;> rfl
theorem app_tok {k:Nat} {n':Bool} {xs ys:List (List D)} {o':Own} {t:Nat} (h:xs.length+ys.length≤maxLenD) (hs:sget S t=some (.tok true)):appD k false (.sl k false xs (.tok t)) (.sl k n' ys o') S=some (.sl k false (xs++ys) (.tok S.length),.tok true::sset S t (.tok false)):=by
 simp only [appD,h,and_self,true_or,if_true,hs]
 rfl
def stE:Option Ent→Store→Nat→Nat→Bool→Nat→D→Option Store
 | some (.box cs),S,id,k,g,o,v=>match cellsK k g v with
  | some l=>if o+k≤cs.length then some (sset S id (.box (splice cs o l))) else none
  | none=>none
 | _,_,_,_,_,_,_=>none
@[simp] theorem stD_bx (k:Nat) (g:Bool) (v:D):stD S k g (.bx id o) v=stE (sget S id) S id k g o v:=by
 simp only [stD,stE]
 cases sget S id with
 | none=>rfl
 | some e=>cases e <;> rfl
@[simp] theorem stE_box' (k:Nat) (g:Bool) (v:D):stE (some (.box cs)) S id k g o v=(cellsK k g v).bind fun l=>if o+k≤cs.length then some (sset S id (.box (splice cs o l))) else none:=by
 simp only [stE]
 cases cellsK k g v <;> rfl
@[simp] theorem splice_nil:splice cs o []=cs:=(rfl)
@[simp] theorem splice_cons (x:D) (l:List D):splice cs o (x::l)=splice (fset cs o x) (o+1) l:=(rfl)
@[simp] theorem fset_zero (x y:D):fset (x::cs) 0 y=y::cs:=(rfl)
@[simp] theorem fset_succ (x y:D) (n:Nat):fset (x::cs) (n+1) y=x::fset cs n y:=(rfl)
@[simp] theorem splice_row (x y:D) (r:Row):splice [x,y] 0 (eRow r)=eRow r:=(rfl)
@[simp] theorem splice_nd (x y z:D) (r:Nd):splice [x,y,z] 0 (eNd r)=eNd r:=(rfl)
theorem cellsK_cell {v:D} (h:isCell v=true) (k:Nat):cellsK k false v=some [v]:=by simp [cellsK,h]
@[simp high] theorem stE1_0 (x v:D) (h:isCell v=true):stE (some (.box [x])) S id 1 false 0 v=some (sset S id (.box [v])):=by simp [cellsK_cell h]
@[simp high] theorem stE2_0 (x y v:D) (h:isCell v=true):stE (some (.box [x,y])) S id 1 false 0 v=some (sset S id (.box [v,y])):=by simp [cellsK_cell h]
@[simp high] theorem stE2_1 (x y v:D) (h:isCell v=true):stE (some (.box [x,y])) S id 1 false 1 v=some (sset S id (.box [x,v])):=by simp [cellsK_cell h]
@[simp high] theorem stE3_0 (x y z v:D) (h:isCell v=true):stE (some (.box [x,y,z])) S id 1 false 0 v=some (sset S id (.box [v,y,z])):=by simp [cellsK_cell h]
@[simp high] theorem stE3_1 (x y z v:D) (h:isCell v=true):stE (some (.box [x,y,z])) S id 1 false 1 v=some (sset S id (.box [x,v,z])):=by simp [cellsK_cell h]
@[simp high] theorem stE3_2 (x y z v:D) (h:isCell v=true):stE (some (.box [x,y,z])) S id 1 false 2 v=some (sset S id (.box [x,y,v])):=by simp [cellsK_cell h]
@[simp] theorem stripL_nil:stripL []=[]:=(rfl)
@[simp] theorem stripL_cons (x:D):stripL (x::cs)=strip x::stripL cs:=(rfl)
@[simp] theorem stripT_tup:stripT (.tup cs) = .tup (stripL cs):=(rfl)
@[simp] theorem sget_cons (e:Ent):sget (e::S) id=if id=S.length then some e else sget S id:=(rfl)
@[simp] theorem sset_cons (e x:Ent):sset (e::S) id x=if id=S.length then x::S else e::sset S id x:=(rfl)
end
theorem oeq_self (o:Own):oeq o o=true:=by cases o <;> simp [oeq]
mutual
theorem deq_self:∀ d:D,deq d d=true
 | .top=>rfl
 | .b x=>by simp [deq]
 | .i k n=>by simp [deq]
 | .s l=>by simp [deq]
 | .sl k n xs o=>by simp [deq,oeq_self,deqLL_self xs]
 | .agg cs=>by simp [deq,deqL_self cs]
 | .tup cs=>by simp [deq,deqL_self cs]
 | .bx a b=>by simp [deq]
 | .el cs o=>by simp [deq,deqL_self cs]
 | .ar a b c d=>by simp [deq]
 | .nilp=>rfl
 | .nilm=>rfl
 | .mp a=>by simp [deq]
 | .fn g cs=>by simp [deq,deqL_self cs]
theorem deqL_self:∀ l:List D,deqL l l=true
 | []=>rfl
 | x::l=>by simp [deqL,deq_self x,deqL_self l]
theorem deqLL_self:∀ l:List (List D),deqLL l l=true
 | []=>rfl
 | x::l=>by simp [deqLL,deqL_self x,deqLL_self l]
end
attribute [simp] deq_self
def assoc {α β:Type} [DecidableEq α] (a:α):List (α × β)→Option β
 | []=>none
 | (k,v)::es=>if a=k then some v else assoc a es
theorem assoc_none {α β:Type} [DecidableEq α] {a:α}:∀ {es:List (α × β)},assoc a es=none↔∀ p,p∈es→p.1≠a
 | []=>by simp [assoc]
 | (k,v)::es=>by
  simp only [assoc]
  split
  ·rename_i h
   simp only [List.mem_cons,reduceCtorEq,false_iff]
   intro q
   exact q (k,v) (Or.inl rfl) h.symm
  ·rename_i h
   rw [assoc_none]
   constructor
   ·intro q p hp
    rcases List.mem_cons.1 hp with hp | hp
    ·subst hp;exact fun e=>h e.symm
    ·exact q p hp
   ·exact fun q p hp=>q p (List.mem_cons_of_mem _ hp)
theorem assoc_app {α β:Type} [DecidableEq α] (a:α) (fs:List (α × β)):∀ es:List (α × β),assoc a (es++fs)=match assoc a es with | some v=>some v | none=>assoc a fs
 | []=>rfl
 | (k,v)::es=>by
  simp only [List.cons_append,assoc]
  split
  ·rfl
  ·exact assoc_app a fs es
def KeyE {α:Type} [DecidableEq α] (kk:KK) (ek:α→D):Prop:=∀ a b,keq kk (ek a) (ek b)=some (decide (a=b))
theorem keyE_row:KeyE (.agg [.i,.i]) (fun r:Row=>.agg (eRow r)):=fun a b=>by simp only [keq];exact seqL_row a b
theorem keyE_nd:KeyE (.agg [.i,.i,.i]) (fun r:Nd=>.agg (eNd r)):=fun a b=>by simp only [keq];exact seqL_nd a b
theorem keyE_i:KeyE (.one .i) (fun r:Int=>.i .i64 r):=fun a b=>by
 simp only [keq,isSK,seq1,Bool.and_self,if_true]
 congr 1
section
variable {α β:Type} [DecidableEq α] {kk:KK} {ek:α→D} {ev:β→D}
def eMap (ek:α→D) (ev:β→D) (es:List (α × β)):List (D × D):=es.map fun p=>(ek p.1,ev p.2)
theorem lkD_map (h:KeyE kk ek) (a:α):∀ es:List (α × β),lkD kk (ek a) (eMap ek ev es)=some ((assoc a es).map ev)
 | []=>rfl
 | (k,v)::es=>by
  simp only [eMap,List.map_cons,lkD,h a k,assoc]
  by_cases e:a=k
  ·simp [e]
  ·simp only [e,decide_false,if_false]
   exact lkD_map h a es
theorem muD_new (h:KeyE kk ek) (a:α) (b:β):∀ es:List (α × β),assoc a es=none→muD kk (ek a) (ev b) (eMap ek ev es)=some (eMap ek ev (es++[(a,b)]))
 | [],_=>rfl
 | (k,v)::es,q=>by
  simp only [assoc] at q
  split at q
  ·cases q
  ·rename_i e
   have:=muD_new h a b es q
   simp only [eMap] at this
   simp only [eMap,List.map_cons,muD,h a k,e,decide_false,this,List.cons_append,Option.map_some]
theorem lkD'_mp (h:KeyE kk ek) {a:α} (hk:isKey kk (ek a)=true) {S:Store} {id:Nat} {es:List (α × β)} (hS:sget S id=some (.map (eMap ek ev es))) (ok:Bool) (z:D) :
  lkD' kk ok z S (.mp id) (ek a)=some (okD ok z ((assoc a es).map ev)):=by
 simp only [lkD',hk,if_true,hS,lkD_map h,Option.map_some]
theorem muD'_new (h:KeyE kk ek) {a:α} {b:β} (hk:isKey kk (ek a)=true) {S:Store} {id:Nat} {es:List (α × β)} (hS:sget S id=some (.map (eMap ek ev es))) (ha:assoc a es=none) :
  muD' kk S (.mp id) (ek a) (ev b)=some (sset S id (.map (eMap ek ev (es++[(a,b)])))):=by
 simp only [muD',hk,if_true,hS,muD_new h a b es ha,Option.map_some]
end
@[simp] theorem okD_tn (z:D):okD true z none = .tup [z,.b false]:=(rfl)
@[simp] theorem okD_ts (z v:D):okD true z (some v) = .tup [v,.b true]:=(rfl)
@[simp] theorem okD_fn (z:D):okD false z none=z:=(rfl)
@[simp] theorem okD_fs (z v:D):okD false z (some v)=v:=(rfl)
end Go.Proofs.YtjniafcnjbbomaaGreatDoor.DE.V

namespace Go.Proofs.YtjniafcnjbbomaaGreatDoor.NL
abbrev B:Nat:=4294967296
def val:List Nat→Nat
 | []=>0
 | x::l=>x+B * val l
def Lim (l:List Nat):Prop:=∀ x,x∈l→x<B
def Can (l:List Nat):Prop:=Lim l∧l.getLast? ≠ some 0
theorem val_append:∀ (a b:List Nat),val (a++b)=val a+B ^ a.length * val b
 | [],b=>by simp [val]
 | x::a,b=>by
  simp only [List.cons_append,val,val_append a b,List.length_cons,Nat.pow_succ,Nat.mul_add]
  rw [Nat.mul_comm (B ^ a.length) B,Nat.mul_assoc,Nat.add_assoc]
theorem Lim.cons {x:Nat} {l:List Nat} (h:Lim (x::l)):x<B∧Lim l:=⟨h x (by simp),fun y hy=>h y (by simp [hy])⟩
theorem val_lt:∀ {l:List Nat},Lim l→val l<B ^ l.length
 | [],_=>by simp [val]
 | x::l,h=>by
  have h1:=h.cons.1
  have h2:=val_lt h.cons.2
  simp only [val,List.length_cons,Nat.pow_succ]
  have h3:B * (val l+1)≤B * B ^ l.length:=Nat.mul_le_mul_left B h2
  rw [Nat.mul_add,Nat.mul_one] at h3
  rw [Nat.mul_comm (B ^ l.length) B]
  omega
def trim:List Nat→List Nat
 | []=>[]
 | x::l=>if trim l=[]∧x=0 then [] else x::trim l
theorem Can.cons {x:Nat} {l:List Nat} (h:Can (x::l)):x<B∧Can l:=by
 refine ⟨h.1.cons.1,h.1.cons.2,?_⟩
 cases l with
 | nil=>simp
 | cons y m=>have:=h.2;rwa [List.getLast?_cons_cons] at this
theorem Can.pos:∀ {l:List Nat},Can l→l≠[]→0<val l
 | [],_,h=>absurd rfl h
 | [x],h,_=>by
  have:=h.2
  simp only [List.getLast?_singleton,ne_eq,Option.some.injEq] at this
  simp only [val];omega
 | x::y::l,h,_=>by
  have:=Can.pos h.cons.2 (by simp)
  simp only [val] at this ⊢
  have h2:0<B * (y+B * val l):=Nat.mul_pos (by decide) this
  omega
theorem can_inj:∀ {a b:List Nat},Can a→Can b→val a=val b→a=b
 | [],[],_,_,_=>rfl
 | [],y::b,_,hb,e=>by have:=hb.pos (by simp);simp only [val] at e this;omega
 | x::a,[],ha,_,e=>by have:=ha.pos (by simp);simp only [val] at e this;omega
 | x::a,y::b,ha,hb,e=>by
  have h1:=ha.cons.1
  have h2:=hb.cons.1
  simp only [val] at e
  have hx:x=y:=by
   have:=congrArg (· % B) e
   simp only [Nat.add_mul_mod_self_left] at this
   rwa [Nat.mod_eq_of_lt h1,Nat.mod_eq_of_lt h2] at this
  subst hx
  have hv:val a=val b:=Nat.eq_of_mul_eq_mul_left (by decide:0<B) (by omega)
  rw [can_inj ha.cons.2 hb.cons.2 hv]
section
variable {β t nx a b c P dl ul d U:Nat}
theorem q_le (hd:d=(t * β+nx) * P+dl) (hU:U=((a * β+b) * β+c) * P+ul) (hul:ul<P) (q:Nat) (hq:q * d≤U):q * (t * β+nx)≤(a * β+b) * β+c:=by
 generalize t * β+nx=D at *
 generalize (a * β+b) * β+c=V at *
 subst hd hU
 have h1:q * D * P<(V+1) * P:=by
  rw [Nat.add_mul,Nat.one_mul]
  have:q * (D * P+dl)=q * D * P+q * dl:=by rw [Nat.mul_add,Nat.mul_assoc]
  rw [this] at hq
  omega
 exact Nat.lt_succ_iff.1 (Nat.lt_of_mul_lt_mul_right h1)
theorem guess_le (hd:d=(t * β+nx) * P+dl) (hU:U=((a * β+b) * β+c) * P+ul) (hdl:dl<P) (g:Nat) (hg:g * (t * β+nx)≤(a * β+b) * β+c) (hgD:g≤t * β+nx+1) (h1:1≤g):(g-1) * d≤U:=by
 generalize t * β+nx=D at *
 generalize (a * β+b) * β+c=V at *
 obtain ⟨k,rfl⟩:∃ k,g=k+1:=⟨g-1,by omega⟩
 simp only [Nat.add_sub_cancel]
 subst hd hU
 have h2:k * (D * P+dl)≤k * ((D+1) * P):=Nat.mul_le_mul_left k (by rw [Nat.add_mul,Nat.one_mul];omega)
 have h3:k * (D+1)≤V:=by
  have:(k+1) * D=k * D+D:=by rw [Nat.add_mul,Nat.one_mul]
  rw [Nat.mul_add,Nat.mul_one]
  omega
 calc k * (D * P+dl)≤k * ((D+1) * P):=h2
  _=k * (D+1) * P:=by rw [Nat.mul_assoc]
  _≤V * P:=Nat.mul_le_mul_right P h3
  _≤V * P+ul:=Nat.le_add_right _ _
theorem guess_gt {g r q:Nat} (hh:g * t+r=a * β+b) (hq:q * (t * β+nx)≤(a * β+b) * β+c) (h:r * β+c<g * nx):q<g:=by
 have h1:(a * β+b) * β+c<g * (t * β+nx):=by
  rw [←hh,Nat.add_mul,Nat.mul_add]
  have:g * t * β=g * (t * β):=Nat.mul_assoc _ _ _
  omega
 exact Nat.lt_of_mul_lt_mul_right (Nat.lt_of_le_of_lt hq h1)
theorem guess_fit {g r:Nat} (hh:g * t+r=a * β+b) (h:g * nx≤r * β+c):g * (t * β+nx)≤(a * β+b) * β+c:=by
 rw [←hh,Nat.add_mul,Nat.mul_add]
 have:g * t * β=g * (t * β):=Nat.mul_assoc _ _ _
 omega
theorem guess_first {q:Nat} (hβ:c<β) (hq:q * (t * β+nx)≤(a * β+b) * β+c):q * t≤a * β+b:=by
 have h1:q * t * β<(a * β+b+1) * β:=by
  rw [Nat.mul_add] at hq
  have e1:q * (t * β)=q * t * β:=(Nat.mul_assoc _ _ _).symm
  have e2:(a * β+b+1) * β=(a * β+b) * β+β:=by rw [Nat.add_mul (a * β+b),Nat.one_mul]
  omega
 exact Nat.lt_succ_iff.1 (Nat.lt_of_mul_lt_mul_right h1)
end
end Go.Proofs.YtjniafcnjbbomaaGreatDoor.NL

namespace Go.Proofs.YtjniafcnjbbomaaGreatDoor.NL
theorem B_pos:0<B:=by decide
theorem Bp (k:Nat):0<B ^ k:=Nat.pow_pos B_pos
def ofN (n:Nat):List Nat:=if _h:n=0 then [] else n % B::ofN (n / B)
termination_by n
decreasing_by exact Nat.div_lt_self (Nat.pos_of_ne_zero _h) (show 1<B by decide)
theorem ofN_zero:ofN 0=[]:=by rw [ofN];simp
theorem ofN_pos {n:Nat} (h:n≠0):ofN n=n % B::ofN (n / B):=by rw [ofN];simp [h]
theorem val_ofN (n:Nat):val (ofN n)=n:=by
 induction n using Nat.strongRecOn with
 | _ n ih=>
  by_cases h:n=0
  ·subst h;rw [ofN_zero];rfl
  ·rw [ofN_pos h,val,ih _ (Nat.div_lt_self (Nat.pos_of_ne_zero h) (show 1<B by decide))]
   exact Nat.mod_add_div n B
theorem lim_ofN (n:Nat):Lim (ofN n):=by
 induction n using Nat.strongRecOn with
 | _ n ih=>
  by_cases h:n=0
  ·subst h;rw [ofN_zero];intro x hx;cases hx
  ·rw [ofN_pos h]
   intro x hx
   rcases List.mem_cons.1 hx with hx | hx
   ·subst hx;exact Nat.mod_lt _ B_pos
   ·exact ih _ (Nat.div_lt_self (Nat.pos_of_ne_zero h) (show 1<B by decide)) x hx
theorem last_ofN (n:Nat):(ofN n).getLast? ≠ some 0:=by
 induction n using Nat.strongRecOn with
 | _ n ih=>
  by_cases h:n=0
  ·subst h;rw [ofN_zero];simp
  ·rw [ofN_pos h]
   by_cases h2:n / B=0
   ·rw [h2,ofN_zero]
    have:n % B=n:=Nat.mod_eq_of_lt ((Nat.div_eq_zero_iff_lt B_pos).1 h2)
    simp [this,h]
   ·have:=ih _ (Nat.div_lt_self (Nat.pos_of_ne_zero h) (show 1<B by decide))
    rw [ofN_pos h2] at this ⊢
    rw [List.getLast?_cons_cons];exact this
theorem can_ofN (n:Nat):Can (ofN n):=⟨lim_ofN n,last_ofN n⟩
theorem ofN_val {l:List Nat} (h:Can l):ofN (val l)=l:=can_inj (can_ofN _) h (val_ofN _)
theorem ofN_inj {n m:Nat} (h:ofN n=ofN m):n=m:=by rw [←val_ofN n,h,val_ofN]
theorem ofN_nil {n:Nat}:ofN n=[]↔n=0:=⟨fun h=>ofN_inj (h.trans ofN_zero.symm),fun h=>by rw [h,ofN_zero]⟩
theorem ofN_one:ofN 1=[1]:=by
 rw [ofN_pos (by decide),show 1 / B=0 from rfl,ofN_zero,show 1 % B=1 from rfl]
theorem len_ofN {n k:Nat} (h:n<B ^ k):(ofN n).length≤k:=by
 rcases Nat.lt_or_ge k (ofN n).length with q | q
 ·have hc:=can_ofN n
  have hne:ofN n≠[]:=by intro e;rw [e] at q;simp at q
  obtain ⟨x,hx⟩:∃ x,(ofN n).getLast? = some x:=by
   cases hh:(ofN n).getLast? with
   | none=>exact absurd (List.getLast?_eq_none_iff.1 hh) hne
   | some x=>exact ⟨x,rfl⟩
  obtain ⟨ys,e⟩:=List.getLast?_eq_some_iff.1 hx
  have hx0:x≠0:=by rintro rfl;exact hc.2 hx
  have hv:n=val (ys++[x]):=by rw [←e,val_ofN]
  rw [val_append] at hv
  have hl:(ofN n).length=ys.length+1:=by rw [e];simp
  have hp:B ^ k≤B ^ ys.length:=Nat.pow_le_pow_right B_pos (by omega)
  have:B ^ ys.length * 1≤B ^ ys.length * val [x]:=Nat.mul_le_mul_left _ (by simp only [val];omega)
  omega
 ·exact q
theorem lt_of_len {n k:Nat} (h:(ofN n).length≤k):n<B ^ k:=by
 have:=val_lt (lim_ofN n)
 rw [val_ofN] at this
 exact Nat.lt_of_lt_of_le this (Nat.pow_le_pow_right B_pos h)
def dg (l:List Nat) (i:Nat):Nat:=(l[i]?).getD 0
theorem dg_get {l:List Nat} {i x:Nat} (h:l[i]? = some x):dg l i=x:=by simp [dg,h]
theorem dg_ge {l:List Nat} {i:Nat} (h:l.length≤i):dg l i=0:=by simp [dg,List.getElem?_eq_none h]
theorem get_dg {l:List Nat} {i:Nat} (h:i<l.length):l[i]? = some (dg l i):=by simp [dg,List.getElem?_eq_getElem h]
theorem dg_lt {l:List Nat} (h:Lim l) (i:Nat):dg l i<B:=by
 rcases Nat.lt_or_ge i l.length with q | q
 ·exact h _ (List.mem_of_getElem? (get_dg q))
 ·rw [dg_ge q];exact B_pos
theorem vt_succ (l:List Nat) (k:Nat):val (l.take (k+1))=val (l.take k)+B ^ k * dg l k:=by
 rcases Nat.lt_or_ge k l.length with q | q
 ·rw [List.take_add_one,get_dg q,val_append]
  simp [val,Nat.min_eq_left (Nat.le_of_lt q)]
 ·rw [dg_ge q,List.take_of_length_le q,List.take_of_length_le (by omega)];simp
theorem vt_full {l:List Nat} {k:Nat} (h:l.length≤k):val (l.take k)=val l:=by rw [List.take_of_length_le h]
theorem val_set:∀ {l:List Nat} {i:Nat} (x:Nat),i<l.length→val (l.set i x)+B ^ i * dg l i=val l+B ^ i * x
 | [],_,_,h=>by simp at h
 | y::l,0,x,_=>by simp [val,dg];omega
 | y::l,i+1,x,h=>by
  have:=val_set (l:=l) (i:=i) x (by simpa using h)
  have e:dg (y::l) (i+1)=dg l i:=by simp [dg]
  rw [e]
  simp only [List.set_cons_succ,val,Nat.pow_succ]
  have e1:B ^ i * B * dg l i=B * (B ^ i * dg l i):=by rw [Nat.mul_comm (B ^ i) B,Nat.mul_assoc]
  have e2:B ^ i * B * x=B * (B ^ i * x):=by rw [Nat.mul_comm (B ^ i) B,Nat.mul_assoc]
  rw [e1,e2]
  have:=congrArg (B * ·) this
  simp only [Nat.mul_add] at this
  omega
theorem val_set0 {l:List Nat} {i:Nat} (x:Nat) (h:i<l.length) (h0:dg l i=0):val (l.set i x)=val l+B ^ i * x:=by
 have:=val_set x h
 rw [h0] at this;simpa using this
theorem lim_set {l:List Nat} {i x:Nat} (h:Lim l) (hx:x<B):Lim (l.set i x):=by
 intro y hy
 rcases List.mem_or_eq_of_mem_set hy with q | q
 ·exact h y q
 ·rw [q];exact hx
theorem dg_set_ne {l:List Nat} {i j x:Nat} (h:i≠j):dg (l.set i x) j=dg l j:=by simp [dg,List.getElem?_set_ne h]
theorem dg_set {l:List Nat} {i x:Nat} (h:i<l.length):dg (l.set i x) i=x:=by simp [dg,h]
theorem val_zeros:∀ n,val (List.replicate n 0)=0
 | 0=>rfl
 | n+1=>by simp [List.replicate_succ,val,val_zeros n]
theorem lim_zeros (n:Nat):Lim (List.replicate n 0):=by intro x hx;rw [(List.mem_replicate.1 hx).2];exact B_pos
theorem dg_zeros (n i:Nat):dg (List.replicate n 0) i=0:=by
 rcases Nat.lt_or_ge i n with q | q
 ·exact dg_get (by simp [q])
 ·exact dg_ge (by simpa using q)
theorem lim_snoc {l:List Nat} {x:Nat} (h:Lim l) (hx:x<B):Lim (l++[x]):=by
 intro y hy
 rcases List.mem_append.1 hy with q | q
 ·exact h y q
 ·rw [List.mem_singleton.1 q];exact hx
theorem lim_take {l:List Nat} (k:Nat) (h:Lim l):Lim (l.take k):=fun x hx=>h x (List.mem_of_mem_take hx)
theorem lim_drop {l:List Nat} (k:Nat) (h:Lim l):Lim (l.drop k):=fun x hx=>h x (List.mem_of_mem_drop hx)
theorem lim_app {a b:List Nat} (h:Lim a) (k:Lim b):Lim (a++b):=by
 intro y hy
 rcases List.mem_append.1 hy with q | q
 ·exact h y q
 ·exact k y q
theorem val_snoc (l:List Nat) (x:Nat):val (l++[x])=val l+B ^ l.length * x:=by rw [val_append];simp [val]
theorem lt_len {a b:List Nat} (ha:Lim a) (hb:Can b) (h:a.length<b.length):val a<val b:=by
 have h1:=val_lt ha
 have h2:b.length≤(ofN (val b)).length:=by rw [ofN_val hb];exact Nat.le_refl _
 rcases Nat.lt_or_ge (val b) (B ^ a.length) with q | q
 ·have:=len_ofN q;omega
 ·omega
theorem lt_at {a b:List Nat} {k x y:Nat} (ha:Lim a) (hd:a.drop (k+1)=b.drop (k+1)) (hx:a[k]? = some x) (hy:b[k]? = some y) (h:x<y):val a<val b:=by
 have e1:a=a.take k++(x::a.drop (k+1)):=by
  have:a.drop k=x::a.drop (k+1):=by
   obtain ⟨hk,rfl⟩:=List.getElem?_eq_some_iff.1 hx
   exact List.drop_eq_getElem_cons hk
  rw [←this,List.take_append_drop]
 have e2:b=b.take k++(y::b.drop (k+1)):=by
  have:b.drop k=y::b.drop (k+1):=by
   obtain ⟨hk,rfl⟩:=List.getElem?_eq_some_iff.1 hy
   exact List.drop_eq_getElem_cons hk
  rw [←this,List.take_append_drop]
 have hka:k<a.length:=(List.getElem?_eq_some_iff.1 hx).1
 have hkb:k<b.length:=(List.getElem?_eq_some_iff.1 hy).1
 have v1:=congrArg val e1
 have v2:=congrArg val e2
 rw [val_append] at v1 v2
 simp only [val,List.length_take,Nat.min_eq_left (Nat.le_of_lt hka),Nat.min_eq_left (Nat.le_of_lt hkb),←hd] at v1 v2
 have l1:=val_lt (lim_take k ha)
 rw [List.length_take,Nat.min_eq_left (Nat.le_of_lt hka)] at l1
 have l2:B ^ k * (x+1+B * val (a.drop (k+1)))≤B ^ k * (y+B * val (a.drop (k+1))):=Nat.mul_le_mul_left _ (by omega)
 have e:B ^ k * (x+1+B * val (a.drop (k+1)))=B ^ k * (x+B * val (a.drop (k+1)))+B ^ k:=by
  rw [show x+1+B * val (a.drop (k+1))=(x+B * val (a.drop (k+1)))+1 by omega,Nat.mul_add,Nat.mul_one]
 omega
def sgn (x y:Nat):Int:=if x<y then -1 else if x=y then 0 else 1
end Go.Proofs.YtjniafcnjbbomaaGreatDoor.NL

namespace Go.Proofs.YtjniafcnjbbomaaGreatDoor.NL
theorem top2 {l:List Nat} {m:Nat} (h:l.length=m+2):val l=(dg l (m+1) * B+dg l m) * B ^ m+val (l.take m):=by
 have e:=vt_full (l:=l) (k:=m+2) (by omega)
 rw [←e,vt_succ,vt_succ]
 simp only [Nat.pow_succ]
 clear e
 generalize dg l (m+1)=x
 generalize dg l m=y
 generalize B ^ m=p
 generalize B=b
 grind
theorem top3 {l:List Nat} {m:Nat} (h:l.length=m+3):val l=((dg l (m+2) * B+dg l (m+1)) * B+dg l m) * B ^ m+val (l.take m):=by
 have e:=vt_full (l:=l) (k:=m+3) (by omega)
 rw [←e,vt_succ,vt_succ,vt_succ]
 simp only [Nat.pow_succ]
 clear e
 generalize dg l (m+2)=x
 generalize dg l (m+1)=y
 generalize dg l m=z
 generalize B ^ m=p
 generalize B=b
 grind
structure Win (d w:List Nat) (m:Nat):Prop where
 ld:d.length=m+2
 lw:w.length=m+3
 hd:Lim d
 hw:Lim w
 top:B≤2 * dg d (m+1)
 lt:val w<val d * B
section
variable {d w:List Nat} {m:Nat}
theorem Win.eD (h:Win d w m):val d=(dg d (m+1) * B+dg d m) * B ^ m+val (d.take m):=top2 h.ld
theorem Win.eW (h:Win d w m):val w=((dg w (m+2) * B+dg w (m+1)) * B+dg w m) * B ^ m+val (w.take m):=top3 h.lw
theorem Win.dl (h:Win d w m):val (d.take m)<B ^ m:=by
 have:=val_lt (lim_take m h.hd)
 rwa [List.length_take,Nat.min_eq_left (by have:=h.ld;omega)] at this
theorem Win.wl (h:Win d w m):val (w.take m)<B ^ m:=by
 have:=val_lt (lim_take m h.hw)
 rwa [List.length_take,Nat.min_eq_left (by have:=h.lw;omega)] at this
theorem Win.tpos (h:Win d w m):0<dg d (m+1):=by have:=h.top;unfold B at this;omega
theorem Win.dpos (h:Win d w m):0<val d:=by
 rw [h.eD]
 have:=Nat.mul_pos (Nat.mul_pos h.tpos B_pos) (Bp m)
 rw [Nat.add_mul];omega
theorem Win.qd (_:Win d w m):val w / val d * val d≤val w:=Nat.div_mul_le_self _ _
theorem Win.qB (h:Win d w m):val w / val d<B:=Nat.div_lt_of_lt_mul h.lt
theorem Win.a_le (h:Win d w m):dg w (m+2)≤dg d (m+1):=by
 rcases Nat.lt_or_ge (dg d (m+1)) (dg w (m+2)) with q | q
 ·exfalso
  have hl:=h.lt
  have h1:val d<(dg d (m+1)+1) * B ^ (m+1):=by
   have e:=vt_full (l:=d) (k:=m+2) (by have:=h.ld;omega)
   rw [←e,vt_succ]
   have:=val_lt (lim_take (m+1) h.hd)
   rw [List.length_take,Nat.min_eq_left (by have:=h.ld;omega)] at this
   rw [Nat.add_mul,Nat.one_mul,Nat.mul_comm (dg d (m+1))]
   omega
  have h2:dg w (m+2) * B ^ (m+2)≤val w:=by
   have e:=vt_full (l:=w) (k:=m+3) (by have:=h.lw;omega)
   rw [←e,vt_succ,Nat.mul_comm]
   omega
  have h3:(dg d (m+1)+1) * B ^ (m+2)≤dg w (m+2) * B ^ (m+2):=Nat.mul_le_mul_right _ q
  have h4:val d * B<(dg d (m+1)+1) * B ^ (m+1) * B:=Nat.mul_lt_mul_of_pos_right h1 B_pos
  rw [Nat.mul_assoc,←Nat.pow_succ] at h4
  have h5:(m+1).succ=m+2:=rfl
  rw [h5] at h4
  omega
 ·exact q
structure Gs (d w:List Nat) (m g r:Nat):Prop where
 eq:g * dg d (m+1)+r=dg w (m+2) * B+dg w (m+1)
 le:val w / val d≤g
theorem gs_first (h:Win d w m):Gs d w m ((dg w (m+2) * B+dg w (m+1)) / dg d (m+1)) ((dg w (m+2) * B+dg w (m+1)) % dg d (m+1)):=by
 refine ⟨?_,?_⟩
 ·rw [Nat.mul_comm];exact Nat.div_add_mod _ _
 ·have h1:=q_le h.eD h.eW h.wl _ h.qd
  exact (Nat.le_div_iff_mul_le h.tpos).2 (guess_first (dg_lt h.hw m) h1)
theorem gs_step {g r:Nat} (h:Win d w m) (k:Gs d w m g r) (hc:B≤g∨r * B+dg w m<g * dg d m):1≤g∧Gs d w m (g-1) (r+dg d (m+1)):=by
 have hlt:val w / val d<g:=by
  rcases hc with hc | hc
  ·exact Nat.lt_of_lt_of_le h.qB hc
  ·exact guess_gt k.eq (q_le h.eD h.eW h.wl _ h.qd) hc
 have hk:=k.eq
 have hl:=k.le
 clear k
 generalize hq:val w / val d=q at *
 refine ⟨by omega,?_,by rw [hq];omega⟩
 rw [←hk]
 obtain ⟨p,rfl⟩:∃ p,g=p+1:=⟨g-1,by omega⟩
 simp only [Nat.add_sub_cancel,Nat.add_mul,Nat.one_mul]
 omega
structure Good (d w:List Nat) (g:Nat):Prop where
 lt:g<B
 le:val w / val d≤g
 ge:g≤val w / val d+1
theorem gs_fit {g r:Nat} (h:Win d w m) (k:Gs d w m g r) (hg:g<B) (hc:g * dg d m≤r * B+dg w m):Good d w g:=by
 refine ⟨hg,k.le,?_⟩
 rcases Nat.eq_zero_or_pos g with h0 | h0
 ·rw [h0];exact Nat.zero_le _
 ·have h1:=guess_fit k.eq hc
  have hD:g≤dg d (m+1) * B+dg d m+1:=by
   have:1 * B≤dg d (m+1) * B:=Nat.mul_le_mul_right _ h.tpos
   omega
  have h2:=guess_le h.eD h.eW h.dl g h1 hD h0
  have h3:=(Nat.le_div_iff_mul_le h.dpos).2 h2
  generalize val w / val d=q at *
  omega
theorem gs_break {g r:Nat} (h:Win d w m) (k:Gs d w m g r) (hr:B≤r):Good d w g:=by
 have hg:g<B:=by
  have h1:=k.eq
  have h2:dg w (m+2) * B≤dg d (m+1) * B:=Nat.mul_le_mul_right _ h.a_le
  have h3:=dg_lt h.hw (m+1)
  have h4:g * dg d (m+1)<B * dg d (m+1):=by rw [Nat.mul_comm B];omega
  exact Nat.lt_of_mul_lt_mul_right h4
 refine gs_fit h k hg ?_
 have h1:=dg_lt h.hd m
 have h2:g * dg d m≤B * B:=Nat.mul_le_mul (Nat.le_of_lt hg) (Nat.le_of_lt h1)
 have h3:B * B≤r * B:=Nat.mul_le_mul_right _ hr
 omega
theorem red_ok {g:Nat} {w':List Nat} (h:Win d w m) (k:Good d w g) (e:val w'+g * val d=val w):g=val w / val d∧val w'=val w % val d:=by
 have h1:g≤val w / val d:=(Nat.le_div_iff_mul_le h.dpos).2 (by omega)
 have h2:g=val w / val d:=Nat.le_antisymm h1 k.le
 refine ⟨h2,?_⟩
 have:=Nat.div_add_mod (val w) (val d)
 rw [←h2,Nat.mul_comm] at this
 omega
theorem red_back {g z:Nat} {w' w'':List Nat} (h:Win d w m) (k:Good d w g) (hl:w'.length=m+3) (hL:Lim w') (e:val w'+g * val d=val w+B ^ (m+3)) (hl':w''.length=m+3) (hL':Lim w'') (e':val w''+B ^ (m+3) * z=val w'+val d) :
  1≤g∧g-1=val w / val d∧val w''=val w % val d:=by
 have h1:=val_lt hL
 rw [hl] at h1
 have h1':=val_lt hL'
 rw [hl'] at h1'
 have h2:val w<g * val d:=by omega
 have h3:val w / val d<g:=(Nat.div_lt_iff_lt_mul h.dpos).2 h2
 have h4:g=val w / val d+1:=by have:=k.ge;generalize val w / val d=q at *;omega
 refine ⟨by generalize val w / val d=q at *;omega,by generalize val w / val d=q at *;omega,?_⟩
 have h5:=Nat.div_add_mod (val w) (val d)
 have h6:=Nat.mod_lt (val w) h.dpos
 have h7:val d<B ^ (m+3):=by
  have:=val_lt h.hd
  rw [h.ld] at this
  exact Nat.lt_of_lt_of_le this (Nat.pow_le_pow_right B_pos (by omega))
 rw [h4,Nat.add_mul,Nat.one_mul,Nat.mul_comm] at e
 generalize val w / val d=q at *
 generalize val w % val d=s at *
 have e2:val w''+B ^ (m+3) * z=s+B ^ (m+3):=by omega
 have hz:z=1:=by
  rcases Nat.lt_or_ge z 1 with q | q
  ·have:z=0:=by omega
   subst this;omega
  ·rcases Nat.lt_or_ge 1 z with q' | q'
   ·have:B ^ (m+3) * 2≤B ^ (m+3) * z:=Nat.mul_le_mul_left _ q'
    omega
   ·omega
 rw [hz,Nat.mul_one] at e2
 omega
end
theorem dg_val {l:List Nat} (h:Lim l) (j:Nat):dg l j=val l / B ^ j % B:=by
 rcases Nat.lt_or_ge j l.length with q | q
 ·have e:l=l.take j++(dg l j::l.drop (j+1)):=by
   have:l.drop j=dg l j::l.drop (j+1):=by
    rw [List.drop_eq_getElem_cons q]
    simp [dg,List.getElem?_eq_getElem q]
   rw [←this,List.take_append_drop]
  have hv:=congrArg val e
  rw [val_append,List.length_take,Nat.min_eq_left (Nat.le_of_lt q)] at hv
  have hl:=val_lt (lim_take j h)
  rw [List.length_take,Nat.min_eq_left (Nat.le_of_lt q)] at hl
  have hd:=dg_lt h j
  rw [hv,Nat.add_mul_div_left _ _ (Bp j),Nat.div_eq_of_lt hl,Nat.zero_add]
  simp only [val]
  rw [Nat.add_mul_mod_self_left,Nat.mod_eq_of_lt hd]
 ·rw [dg_ge q]
  have:=val_lt h
  have hp:B ^ l.length≤B ^ j:=Nat.pow_le_pow_right B_pos q
  rw [Nat.div_eq_of_lt (by omega)];rfl
theorem B_two:B=2 ^ 32:=rfl
theorem pow_split (i:Nat):2 ^ i=B ^ (i / 32) * 2 ^ (i % 32):=by
 rw [B_two,←Nat.pow_mul,←Nat.pow_add,Nat.div_add_mod]
theorem bit_val {l:List Nat} (h:Lim l) (i:Nat):dg l (i / 32) / 2 ^ (i % 32) % 2=val l / 2 ^ i % 2:=by
 rw [dg_val h,pow_split i,←Nat.div_div_eq_div_mul]
 generalize val l / B ^ (i / 32)=v
 have hs:i % 32<32:=Nat.mod_lt _ (by decide)
 generalize i % 32=s at *
 have e:B=2 ^ s * (2 * 2 ^ (31-s)):=by
  rw [B_two,←Nat.pow_succ',←Nat.pow_add];congr 1;omega
 rw [e,Nat.mod_mul_right_div_self,Nat.mod_mul_right_mod]
theorem bit_room {q:List Nat} (h:Lim q) {X i:Nat} (e:val q=X * 2 ^ (i+1)):dg q (i / 32)+2 ^ (i % 32)<B:=by
 have hs:i % 32<32:=Nat.mod_lt _ (by decide)
 rw [dg_val h,e,Nat.pow_succ,pow_split i]
 generalize i % 32=s at *
 generalize i / 32=j at *
 have e1:X * (B ^ j * 2 ^ s * 2)=B ^ j * (2 ^ (s+1) * X):=by
  rw [Nat.pow_succ]
  generalize B ^ j=p
  generalize 2 ^ s=t
  grind
 rw [e1,Nat.mul_div_cancel_left _ (Bp j)]
 have e2:B=2 ^ (s+1) * 2 ^ (31-s):=by
  rw [B_two,←Nat.pow_add];congr 1;omega
 have hp:0<2 ^ (31-s):=Nat.two_pow_pos _
 rw [show 2 ^ (s+1) * X % B=2 ^ (s+1) * (X % 2 ^ (31-s)) by rw [e2,Nat.mul_mod_mul_left]]
 have h1:X % 2 ^ (31-s)<2 ^ (31-s):=Nat.mod_lt _ hp
 have h2:2 ^ (s+1) * (X % 2 ^ (31-s)+1)≤2 ^ (s+1) * 2 ^ (31-s):=Nat.mul_le_mul_left _ h1
 rw [←e2,Nat.mul_add,Nat.mul_one] at h2
 have h3:2 ^ s<2 ^ (s+1):=Nat.pow_lt_pow_right (by decide) (by omega)
 omega
theorem bit_step {a b i r:Nat} (hb:0<b) (hr:r=a / 2 ^ (i+1) % b) :
  a / 2 ^ i % b=(if b≤2 * r+a / 2 ^ i % 2 then 2 * r+a / 2 ^ i % 2-b else 2 * r+a / 2 ^ i % 2) ∧
  a / 2 ^ i / b=2 * (a / 2 ^ (i+1) / b)+(if b≤2 * r+a / 2 ^ i % 2 then 1 else 0):=by
 have e:a / 2 ^ (i+1)=a / 2 ^ i / 2:=by rw [Nat.pow_succ,Nat.div_div_eq_div_mul]
 rw [e] at hr ⊢
 generalize a / 2 ^ i=v at *
 have h1:=Nat.div_add_mod v 2
 have h2:=Nat.div_add_mod (v / 2) b
 rw [←hr] at h2
 have h3:r<b:=by rw [hr];exact Nat.mod_lt _ hb
 have h4:v % 2<2:=Nat.mod_lt _ (by decide)
 generalize v / 2 / b=Q at *
 generalize v % 2=t at *
 have hv:v=b * (2 * Q)+(2 * r+t):=by
  have:b * (2 * Q)=2 * (b * Q):=by rw [Nat.mul_left_comm]
  omega
 rw [hv]
 split
 ·rename_i hc
  have e3:b * (2 * Q)+(2 * r+t)=(2 * r+t-b)+b * (2 * Q+1):=by rw [Nat.mul_add,Nat.mul_one];omega
  rw [e3,Nat.add_mul_mod_self_left,Nat.add_mul_div_left _ _ hb,Nat.div_eq_of_lt (by omega),Nat.mod_eq_of_lt (by omega)]
  exact ⟨rfl,by omega⟩
 ·rw [Nat.add_comm (b * (2 * Q)),Nat.add_mul_mod_self_left,Nat.add_mul_div_left _ _ hb,Nat.div_eq_of_lt (by omega),Nat.mod_eq_of_lt (by omega)]
  exact ⟨rfl,by omega⟩
end Go.Proofs.YtjniafcnjbbomaaGreatDoor.NL

namespace Go.Proofs.YtjniafcnjbbomaaGreatDoor.NL
abbrev Fq:=Nat × Nat
def Lt128 (n:Nat):Prop:=n<B ^ 128
instance (n:Nat):Decidable (Lt128 n):=inferInstanceAs (Decidable (n<B ^ 128))
theorem lt128_iff (n:Nat):Lt128 n↔(ofN n).length≤128:=⟨len_ofN,lt_of_len⟩
structure VQ (q:Fq):Prop where
 pos:0<q.2
 gcd:Nat.gcd q.1 q.2=1
 f1:Lt128 q.1
 f2:Lt128 q.2
def red (n d:Nat):Fq:=(n / Nat.gcd n d,d / Nat.gcd n d)
theorem VQ_red {n d:Nat} (h:0<d) (h1:Lt128 n) (h2:Lt128 d):VQ (red n d):=by
 have hg:0<Nat.gcd n d:=Nat.gcd_pos_of_pos_right _ h
 exact ⟨Nat.div_gcd_pos_of_pos_right _ h,Nat.gcd_div_gcd_div_gcd_of_pos_right h,Nat.lt_of_le_of_lt (Nat.div_le_self _ _) h1,Nat.lt_of_le_of_lt (Nat.div_le_self _ _) h2⟩
def pmul (a b:Fq):Option Fq:=if Lt128 (a.1 * b.1)∧Lt128 (a.2 * b.2) then some (red (a.1 * b.1) (a.2 * b.2)) else none
def padd (a b:Fq):Option Fq:=if (Lt128 (a.1 * b.2)∧Lt128 (b.1 * a.2)∧Lt128 (a.2 * b.2))∧Lt128 (a.1 * b.2+b.1 * a.2) then some (red (a.1 * b.2+b.1 * a.2) (a.2 * b.2)) else none
def pcompl (a:Fq):Fq:=(a.2-a.1,a.2)
theorem VQ_mul {a b c:Fq} (ha:VQ a) (hb:VQ b) (h:pmul a b=some c):VQ c:=by
 unfold pmul at h
 split at h
 ·rename_i k
  injection h with h;subst h
  exact VQ_red (Nat.mul_pos ha.pos hb.pos) k.1 k.2
 ·cases h
theorem VQ_add {a b c:Fq} (ha:VQ a) (hb:VQ b) (h:padd a b=some c):VQ c:=by
 unfold padd at h
 split at h
 ·rename_i k
  injection h with h;subst h
  exact VQ_red (Nat.mul_pos ha.pos hb.pos) k.2 k.1.2.2
 ·cases h
theorem gcd_compl {a:Fq} (h:a.1≤a.2):Nat.gcd (a.2-a.1) a.2=Nat.gcd a.1 a.2:=by
 rw [Nat.gcd_self_sub_left h]
theorem VQ_compl {a:Fq} (ha:VQ a) (h:a.1≤a.2):VQ (pcompl a):=
 ⟨ha.pos,by rw [pcompl];exact (gcd_compl h).trans ha.gcd,Nat.lt_of_le_of_lt (Nat.sub_le _ _) ha.f2,ha.f2⟩
theorem red_compl {a:Fq} (ha:VQ a) (h:a.1≤a.2):red (a.2-a.1) a.2=pcompl a:=by
 have:=(gcd_compl h).trans ha.gcd
 simp only [red,this,Nat.div_one,pcompl]
theorem VQ_zero:VQ (0,1):=⟨by decide,by decide,Nat.pow_pos B_pos,Nat.one_lt_pow (by decide) (by decide)⟩
theorem VQ_one:VQ (1,1):=⟨by decide,by decide,Nat.one_lt_pow (by decide) (by decide),Nat.one_lt_pow (by decide) (by decide)⟩
end Go.Proofs.YtjniafcnjbbomaaGreatDoor.NL

namespace Go.Proofs.YtjniafcnjbbomaaGreatDoor.NL
theorem val_take_drop (l:List Nat) (k:Nat) (h:k≤l.length):val l=val (l.take k)+B ^ k * val (l.drop k):=by
 have e:=congrArg val (List.take_append_drop k l)
 rw [val_append,List.length_take,Nat.min_eq_left h] at e
 exact e.symm
theorem val_take_lt {l:List Nat} (h:Lim l) (k:Nat):val (l.take k)<B ^ k:=by
 have:=val_lt (lim_take k h)
 exact Nat.lt_of_lt_of_le this (Nat.pow_le_pow_right B_pos (by rw [List.length_take];omega))
theorem val_drop {l:List Nat} (h:Lim l) (k:Nat):val (l.drop k)=val l / B ^ k:=by
 rcases Nat.lt_or_ge k l.length with q | q
 ·rw [val_take_drop l k (Nat.le_of_lt q),Nat.add_mul_div_left _ _ (Bp k),Nat.div_eq_of_lt (val_take_lt h k),Nat.zero_add]
 ·rw [List.drop_of_length_le q]
  have:=val_lt h
  have hp:B ^ l.length≤B ^ k:=Nat.pow_le_pow_right B_pos q
  rw [Nat.div_eq_of_lt (by omega)];rfl
theorem drop_dg {l:List Nat} {k:Nat} (h:k<l.length):l.drop k=dg l k::l.drop (k+1):=by
 rw [List.drop_eq_getElem_cons h]
 simp [dg,List.getElem?_eq_getElem h]
theorem val_digits {l:List Nat} {V:Nat} (hV:V<B ^ l.length) (h:∀ i,i<l.length→dg l i=V / B ^ i % B):val l=V:=by
 have key:∀ k,k≤l.length→val (l.take k)=V % B ^ k:=by
  intro k
  induction k with
  | zero=>intro _;simp [val,Nat.mod_one]
  | succ k ih=>
   intro hk
   rw [vt_succ,ih (by omega),h k (by omega),Nat.pow_succ,Nat.mod_mul]
 have:=key l.length (Nat.le_refl _)
 rwa [List.take_length,Nat.mod_eq_of_lt hV] at this
theorem right_dg {l:List Nat} (h:Lim l) {s i:Nat} (hs:s<32) (hi:i<l.length):(dg l i+dg l (i+1) * B) / 2 ^ s % B=val l / 2 ^ s / B ^ i % B:=by
 have e1:val l / 2 ^ s / B ^ i=val l / B ^ i / 2 ^ s:=by rw [Nat.div_div_eq_div_mul,Nat.div_div_eq_div_mul,Nat.mul_comm]
 rw [e1,←val_drop h,drop_dg hi]
 have e2:val (l.drop (i+1))=dg l (i+1)+B * val (l.drop (i+2)):=by
  rcases Nat.lt_or_ge (i+1) l.length with q | q
  ·rw [drop_dg q];rfl
  ·rw [List.drop_of_length_le q,List.drop_of_length_le (by omega),dg_ge q];rfl
 simp only [val]
 rw [e2]
 generalize dg l i=x
 generalize dg l (i+1)=y
 generalize val (l.drop (i+2))=z
 have eB:B=2 ^ s * 2 ^ (32-s):=by rw [B_two,←Nat.pow_add];congr 1;omega
 have e3:x+B * (y+B * z)=(x+y * B)+2 ^ s * (2 ^ (32-s) * z * B):=by
  have:B * (B * z)=2 ^ s * (2 ^ (32-s) * z * B):=by
   generalize hb:B=b at *
   generalize 2 ^ s=p at *
   generalize 2 ^ (32-s)=t at *
   rw [eB];grind
  rw [Nat.mul_add,this,Nat.mul_comm B y];omega
 rw [e3,Nat.add_mul_div_left _ _ (Nat.two_pow_pos s),Nat.add_mul_mod_self_right]
theorem or_add {x y s:Nat} (h:x<2 ^ s):x ||| y * 2 ^ s=x+y * 2 ^ s:=by
 have:=Nat.two_pow_add_eq_or_of_lt h y
 rw [Nat.or_comm,Nat.mul_comm y,←this];omega
theorem left_or {c x s:Nat} (hs:s<32) (h:c<2 ^ s):c ||| x * 2 ^ s % B=c+x * 2 ^ s % B∧c+x * 2 ^ s % B<B:=by
 have eB:B=2 ^ (32-s) * 2 ^ s:=by rw [B_two,←Nat.pow_add];congr 1;omega
 have e:x * 2 ^ s % B=(x % 2 ^ (32-s)) * 2 ^ s:=by rw [eB,Nat.mul_mod_mul_right]
 rw [e]
 refine ⟨or_add h,?_⟩
 have h1:x % 2 ^ (32-s)<2 ^ (32-s):=Nat.mod_lt _ (Nat.two_pow_pos _)
 have h2:(x % 2 ^ (32-s)+1) * 2 ^ s≤2 ^ (32-s) * 2 ^ s:=Nat.mul_le_mul_right _ h1
 rw [←eB,Nat.add_mul,Nat.one_mul] at h2
 omega
theorem left_hi {x s:Nat} (hx:x<B):x * 2 ^ s / B<2 ^ s:=by
 rw [Nat.div_lt_iff_lt_mul B_pos,Nat.mul_comm (2 ^ s)]
 exact Nat.mul_lt_mul_of_pos_right hx (Nat.two_pow_pos s)
theorem byLimb_step {X d x:Nat} (hd:0<d):(x+B * X) / d=(X % d * B+x) / d+B * (X / d)∧(x+B * X) % d=(X % d * B+x) % d:=by
 have h:=Nat.div_add_mod X d
 have e:x+B * X=(X % d * B+x)+d * (B * (X / d)):=by
  generalize X / d=q at *
  generalize X % d=r at *
  rw [←h,Nat.mul_add,Nat.mul_left_comm B d q,Nat.mul_comm B r];omega
 rw [e,Nat.add_mul_div_left _ _ hd,Nat.add_mul_mod_self_left]
 exact ⟨rfl,rfl⟩
theorem byLimb_lt {r d x:Nat} (hr:r<d) (hx:x<B):(r * B+x) / d<B:=by
 rw [Nat.div_lt_iff_lt_mul (by omega)]
 have h:(r+1) * B≤d * B:=Nat.mul_le_mul_right _ hr
 rw [Nat.add_mul,Nat.one_mul] at h
 rw [Nat.mul_comm B d];omega
structure DM (d u q:List Nat) (A la m k:Nat):Prop where
 ld:d.length=m+2
 hd:Lim d
 top:B≤2 * dg d (m+1)
 lu:u.length=la+1
 hu:Lim u
 hq:Lim q
 lq:q.length+(m+2)=la+1
 k_le:k≤q.length
 lt:val (u.drop k)<val d
 eq:val u+val d * val q=A
 z:∀ j,j<k→dg q j=0
def win (u:List Nat) (at' m:Nat):List Nat:=(u.drop at').take (m+3)
theorem DM.cut {d u q:List Nat} {A la m k:Nat} (h:DM d u q A la m (k+1)):Win d (win u k m) m∧val (u.drop (k+(m+3)))=0∧u=u.take k++(win u k m++u.drop (k+(m+3)))∧(u.take k).length=k:=by
 have hlen:(win u k m).length=m+3:=by
  simp only [win,List.length_take,List.length_drop]
  have h1:=h.lu
  have h2:=h.lq
  have h3:=h.k_le
  omega
 have e0:u.drop k=win u k m++u.drop (k+(m+3)):=by
  have:=List.take_append_drop (m+3) (u.drop k)
  rw [List.drop_drop] at this
  exact this.symm
 have hdlt:val d<B ^ (m+2):=by have:=val_lt h.hd;rwa [h.ld] at this
 have hku:k<u.length:=by have h1:=h.lu;have h2:=h.lq;have h3:=h.k_le;omega
 have e1:=drop_dg hku
 have hz:val (u.drop (k+(m+3)))=0:=by
  have hx:=val_drop (lim_drop (k+1) h.hu) (m+2)
  rw [List.drop_drop] at hx
  rw [show k+(m+3)=k+1+(m+2) by omega,hx]
  exact Nat.div_eq_of_lt (Nat.lt_trans h.lt hdlt)
 refine ⟨⟨h.ld,hlen,h.hd,lim_take _ (lim_drop _ h.hu),h.top,?_⟩,hz,?_,?_⟩
 ·have v1:=congrArg val e0
  rw [val_append,hz,e1] at v1
  simp only [val,Nat.mul_zero,Nat.add_zero] at v1
  rw [←v1]
  have h1:=dg_lt h.hu k
  have h2:B * (val (u.drop (k+1))+1)≤B * val d:=Nat.mul_le_mul_left _ h.lt
  rw [Nat.mul_add,Nat.mul_one] at h2
  rw [Nat.mul_comm (val d)]
  omega
 ·rw [←e0,List.take_append_drop]
 ·rw [List.length_take];omega
theorem DM.step {d u q:List Nat} {A la m k g:Nat} {w:List Nat} (h:DM d u q A la m (k+1)) (hg:g=val (win u k m) / val d) (hw:val w=val (win u k m) % val d) (hl:w.length=m+3) (hL:Lim w) :
  DM d (u.take k++(w++u.drop (k+(m+3)))) (q.set k g) A la m k:=by
 obtain ⟨W,hz,hu,hlk⟩:=h.cut
 have hdm:=Nat.div_add_mod (val (win u k m)) (val d)
 rw [←hg,←hw] at hdm
 have hgB:g<B:=by rw [hg];exact W.qB
 have hkq:k<q.length:=h.k_le
 have hwd:val w<val d:=by rw [hw];exact Nat.mod_lt _ W.dpos
 refine ⟨h.ld,h.hd,h.top,?_,?_,lim_set h.hq hgB,?_,?_,?_,?_,?_⟩
 ·have h1:=h.lu
  have h2:=congrArg List.length hu
  simp only [List.length_append,hlk,hl,W.lw] at h2 ⊢
  omega
 ·exact lim_app (lim_take _ h.hu) (lim_app hL (lim_drop _ h.hu))
 ·rw [List.length_set];exact h.lq
 ·rw [List.length_set];omega
 ·rw [List.drop_append_of_le_length (by omega),List.drop_of_length_le (by omega),List.nil_append,val_append,hz]
  omega
 ·have h1:=h.eq
  have h2:=val_set0 g hkq (h.z k (by omega))
  rw [hu,val_append,val_append,hz,hlk] at h1
  rw [val_append,val_append,hz,hlk,h2]
  have h3:B ^ k * (val d * g+val w)=B ^ k * val (win u k m):=by rw [hdm]
  simp only [Nat.mul_zero,Nat.add_zero] at h1 ⊢
  rw [Nat.mul_add] at h3
  rw [Nat.mul_add,Nat.mul_left_comm (val d)]
  omega
 ·intro j hj
  rw [dg_set_ne (by omega)]
  exact h.z j (by omega)
theorem DM.fin {d u q:List Nat} {A la m:Nat} (h:DM d u q A la m 0):val q=A / val d∧val u=A % val d:=by
 have h1:=h.lt
 simp only [List.drop_zero] at h1
 have h2:=h.eq
 rw [←h2,Nat.add_mul_div_left _ _ (by omega),Nat.div_eq_of_lt h1,Nat.add_mul_mod_self_left,Nat.mod_eq_of_lt h1]
 omega
theorem norm_shift {b:List Nat} {m s:Nat} (hb:Lim b) (hl:b.length=m+2) (h0:dg b (m+1)≠0) (hs:s=31-Nat.log2 (dg b (m+1))) :
  s<32∧val b * 2 ^ s<B ^ (m+2)∧2 ^ 31 * B ^ (m+1)≤val b * 2 ^ s∧B ^ (m+1) * 2 ^ s≤val b * 2 ^ s:=by
 have hx:=dg_lt hb (m+1)
 have e:=vt_full (l:=b) (k:=m+2) (by omega)
 rw [vt_succ] at e
 have hlow:=val_take_lt hb (m+1)
 generalize val (b.take (m+1))=lo at *
 generalize dg b (m+1)=x at *
 have h1:=Nat.log2_self_le h0
 have h2:=@Nat.lt_log2_self x
 have hL:Nat.log2 x<32:=(Nat.log2_lt h0).2 hx
 have hLs:2 ^ (Nat.log2 x) * 2 ^ s=2 ^ 31:=by rw [←Nat.pow_add];congr 1;omega
 have hps:0<2 ^ s:=Nat.two_pow_pos s
 have hP:=Bp (m+1)
 rw [←e]
 refine ⟨by omega,?_,?_,?_⟩
 ·have a1:(lo+B ^ (m+1) * x)<B ^ (m+1) * (x+1):=by rw [Nat.mul_add,Nat.mul_one];omega
  have a2:(lo+B ^ (m+1) * x) * 2 ^ s<B ^ (m+1) * (x+1) * 2 ^ s:=Nat.mul_lt_mul_of_pos_right a1 hps
  have a3:(x+1) * 2 ^ s≤2 ^ (Nat.log2 x+1) * 2 ^ s:=Nat.mul_le_mul_right _ h2
  have a4:2 ^ (Nat.log2 x+1) * 2 ^ s=B:=by rw [Nat.pow_succ,Nat.mul_right_comm,hLs]
  have a5:B ^ (m+1) * ((x+1) * 2 ^ s)≤B ^ (m+1) * B:=Nat.mul_le_mul_left _ (by omega)
  rw [←Nat.mul_assoc,←Nat.pow_succ] at a5
  exact Nat.lt_of_lt_of_le a2 a5
 ·have a1:2 ^ (Nat.log2 x) * 2 ^ s * B ^ (m+1)≤x * 2 ^ s * B ^ (m+1):=Nat.mul_le_mul_right _ (Nat.mul_le_mul_right _ h1)
  rw [hLs] at a1
  have a2:x * 2 ^ s * B ^ (m+1)≤(lo+B ^ (m+1) * x) * 2 ^ s:=by
   rw [Nat.add_mul,Nat.mul_comm (B ^ (m+1)) x,Nat.mul_right_comm];omega
  omega
 ·apply Nat.mul_le_mul_right
  have:B ^ (m+1) * 1≤B ^ (m+1) * x:=Nat.mul_le_mul_left _ (by omega)
  omega
theorem DM.start {a b d u q:List Nat} {la m s:Nat} (ha:Lim a) (hb:Lim b) (hla:a.length=la) (hl:b.length=m+2) (hle:m+2≤la) (h0:dg b (m+1)≠0) (hs:s=31-Nat.log2 (dg b (m+1)))
  (hd:Lim d) (ld:d.length=m+2) (vd:val d=val b * 2 ^ s) (hu:Lim u) (lu:u.length=la+1) (vu:val u=val a * 2 ^ s) (lq:q=List.replicate (la-(m+2)+1) 0) :
  DM d u q (val a * 2 ^ s) la m (la-(m+2)+1):=by
 obtain ⟨k1,k2,k3,k4⟩:=norm_shift hb hl h0 hs
 subst lq
 refine ⟨ld,hd,?_,lu,hu,lim_zeros _,by simp;omega,by simp,?_,by rw [val_zeros,vu];simp,fun j _=>dg_zeros _ _⟩
 ·have e:=dg_val hd (m+1)
  rw [vd] at e
  have h1:val b * 2 ^ s / B ^ (m+1)<B:=by
   rw [Nat.div_lt_iff_lt_mul (Bp _),Nat.mul_comm B,←Nat.pow_succ];exact k2
  rw [Nat.mod_eq_of_lt h1] at e
  have h2:2 ^ 31≤val b * 2 ^ s / B ^ (m+1):=(Nat.le_div_iff_mul_le (Bp _)).2 k3
  rw [←e] at h2
  simp only [B];omega
 ·rw [val_drop hu,vu,Nat.div_lt_iff_lt_mul (Bp _),vd]
  have h1:=val_lt ha
  rw [hla] at h1
  have h2:val a * 2 ^ s<B ^ la * 2 ^ s:=Nat.mul_lt_mul_of_pos_right h1 (Nat.two_pow_pos s)
  have h3:B ^ (m+1) * 2 ^ s * B ^ (la-(m+2)+1)≤val b * 2 ^ s * B ^ (la-(m+2)+1):=Nat.mul_le_mul_right _ k4
  have h4:B ^ (m+1) * 2 ^ s * B ^ (la-(m+2)+1)=B ^ la * 2 ^ s:=by
   rw [Nat.mul_right_comm,←Nat.pow_add];congr 2;omega
  omega
end Go.Proofs.YtjniafcnjbbomaaGreatDoor.NL

namespace Go.Proofs.YtjniafcnjbbomaaGreatDoor.DE.V
open Go NL
abbrev Bd (n:Nat):Prop:=n<4611686018427387904
theorem Bd.lt {n m:Nat} (h:Bd n) (k:m≤n):Bd m:=Nat.lt_of_le_of_lt k h
theorem wrapS {k:Nat} (h:Bd k):IntKind.wrap .i64 ((k:Int)+1)=((k+1:Nat):Int):=by
 rw [wrap64 ⟨by omega,by unfold Bd at h;omega⟩];omega
theorem take_next {α:Type} {l m:List α} {k:Nat} {x:α} (h:l.take k=m.take k) (hl:l[k]? = some x) (hm:m[k]? = some x):l.take (k+1)=m.take (k+1):=by
 rw [List.take_add_one,List.take_add_one,h,hl,hm]
theorem take_full {α:Type} {l m:List α} {k:Nat} (h:l.take k=m.take k) (hl:l.length≤k) (hm:m.length≤k):l=m:=by
 rwa [List.take_of_length_le hl,List.take_of_length_le hm] at h
theorem take_snoc {α:Type} {l:List α} {k:Nat} {x:α} (hx:l[k]? = some x):l.take (k+1)=l.take k++[x]:=by rw [List.take_add_one,hx];rfl
theorem wrapu32 {n:Int} (h0:0≤n) (h:n<4294967296):IntKind.wrap .u32 n=n:=by
 have e:n % 4294967296=n:=by omega
 simp [IntKind.wrap,IntKind.signed,IntKind.bits,e]
theorem wrapu64 {n:Int} (h0:0≤n) (h:n<18446744073709551616):IntKind.wrap .u64 n=n:=by
 have e:n % 18446744073709551616=n:=by omega
 simp [IntKind.wrap,IntKind.signed,IntKind.bits,e]
theorem wrapu32m (n:Nat):IntKind.wrap .u32 n=((n % B:Nat):Int):=by
 simp [IntKind.wrap,IntKind.signed,IntKind.bits,B]
theorem wrapN {n:Nat} (h:n<9223372036854775808):IntKind.wrap .i64 n=n:=wrap64 ⟨by omega,by omega⟩
theorem conv_i (k k':IntKind) (n:Int):convD k (.i k' n)=some (.i k (k.wrap n)):=(rfl)
theorem conv32 {k:IntKind} {n:Nat} (h:n<B):convD .u32 (.i k n)=some (.i .u32 n):=by rw [conv_i,wrapu32 (by omega) (by simp only [B] at h;omega)]
theorem conv32m {k:IntKind} (n:Nat):convD .u32 (.i k n)=some (.i .u32 ((n % B:Nat):Int)):=by rw [conv_i,wrapu32m]
theorem conv64 {k:IntKind} {n:Nat} (h:n<18446744073709551616):convD .u64 (.i k n)=some (.i .u64 n):=by rw [conv_i,wrapu64 (by omega) (by omega)]
theorem conv64B {k:IntKind} {n:Nat} (h:n<B):convD .u64 (.i k n)=some (.i .u64 n):=conv64 (by simp only [B] at h;omega)
theorem add64 {a b:Nat} (h:a+b<18446744073709551616):binD .add .num (.i .u64 a) (.i .u64 b)=some (.i .u64 ((a+b:Nat):Int)):=by
 rw [bin_add,←Int.natCast_add,wrapu64 (by omega) (by omega)]
theorem sub64 {a b:Nat} (h:b≤a) (ha:a<18446744073709551616):binD .sub .num (.i .u64 a) (.i .u64 b)=some (.i .u64 ((a-b:Nat):Int)):=by
 rw [bin_sub,wrapu64 (by omega) (by omega)]
 congr 2;omega
theorem mul64 {a b:Nat} (h:a * b<18446744073709551616):binD .mul .num (.i .u64 a) (.i .u64 b)=some (.i .u64 ((a * b:Nat):Int)):=by
 simp only [binD,intOp,if_true]
 rw [←Int.natCast_mul,wrapu64 (by omega) (by omega)]
theorem quo64 {a b:Nat} (h:0<b) (ha:a<18446744073709551616):binD .quo .num (.i .u64 a) (.i .u64 b)=some (.i .u64 ((a / b:Nat):Int)):=by
 have:a / b≤a:=Nat.div_le_self _ _
 simp only [binD,intOp,if_true]
 have e:(a:Int).tdiv b=((a / b:Nat):Int):=(Int.ofNat_tdiv a b).symm
 rw [if_neg (by omega),e]
 generalize a / b=c at *
 rw [wrapu64 (by omega) (by omega)]
theorem rem64 {a b:Nat} (h:0<b):binD .rem .num (.i .u64 a) (.i .u64 b)=some (.i .u64 ((a % b:Nat):Int)):=by
 simp only [binD,intOp,if_true]
 have e:(a:Int).tmod b=((a % b:Nat):Int):=(Int.ofNat_tmod a b).symm
 rw [if_neg (by omega),e]
theorem quoI {a b:Nat} (h:0<b) (ha:a<9223372036854775808):binD .quo .num (.i .i64 a) (.i .i64 b)=some (.i .i64 ((a / b:Nat):Int)):=by
 have:a / b≤a:=Nat.div_le_self _ _
 simp only [binD,intOp,if_true]
 have e:(a:Int).tdiv b=((a / b:Nat):Int):=(Int.ofNat_tdiv a b).symm
 rw [if_neg (by omega),e]
 generalize a / b=c at *
 rw [wrapN (by omega)]
theorem remI {a b:Nat} (h:0<b):binD .rem .num (.i .i64 a) (.i .i64 b)=some (.i .i64 ((a % b:Nat):Int)):=by
 simp only [binD,intOp,if_true]
 have e:(a:Int).tmod b=((a % b:Nat):Int):=(Int.ofNat_tmod a b).symm
 rw [if_neg (by omega),e]
theorem shr_any {k k':IntKind} {v s:Nat} (hs:s≤k.bits):binD .shr .num (.i k v) (.i k' s)=some (.i k ((v / 2 ^ s:Nat):Int)):=by
 have hm:min s k.bits=s:=by omega
 simp only [binD,shOp]
 rw [if_neg (by omega)]
 simp only [Int.toNat_natCast,hm]
 have e:(v:Int).fdiv (2 ^ s)=((v / 2 ^ s:Nat):Int):=by
  rw [show ((2:Int) ^ s)=((2 ^ s:Nat):Int) by simp,←Int.ofNat_fdiv]
 rw [e]
theorem shr32 (v:Nat):binD .shr .num (.i .u64 v) (.i .u64 32)=some (.i .u64 ((v / B:Nat):Int)):=shr_any (k:=.u64) (k':=.u64) (v:=v) (s:=32) (by decide)
theorem shl_any {k':IntKind} {v s:Nat} (hs:s≤64) (h:v * 2 ^ s<18446744073709551616):binD .shl .num (.i .u64 v) (.i k' s)=some (.i .u64 ((v * 2 ^ s:Nat):Int)):=by
 have hm:min s 64=s:=by omega
 simp only [binD,shOp]
 rw [if_neg (by omega)]
 simp only [IntKind.bits,Int.toNat_natCast,hm]
 have e:(v:Int) * (2:Int) ^ s=((v * 2 ^ s:Nat):Int):=by simp
 rw [e]
 generalize v * 2 ^ s=m at *
 rw [wrapu64 (by omega) (by omega)]
theorem shl32 {v:Nat} (h:v<B):binD .shl .num (.i .u64 v) (.i .u64 32)=some (.i .u64 ((v * B:Nat):Int)):=shl_any (k':=.u64) (v:=v) (s:=32) (by decide) (by simp only [B] at h;omega)
theorem or32 {x y:Nat} (hx:x<B) (hy:y<B):binD .or .num (.i .u32 x) (.i .u32 y)=some (.i .u32 ((x ||| y:Nat):Int)):=by
 have ho:x ||| y<2 ^ 32:=Nat.or_lt_two_pow hx hy
 have e:((BitVec.ofInt 32 (x:Int) ||| BitVec.ofInt 32 (y:Int)).toNat:Int)=((x ||| y:Nat):Int):=by
  simp only [BitVec.ofInt_natCast,BitVec.toNat_or,BitVec.toNat_ofNat]
  rw [Nat.mod_eq_of_lt (show x<2 ^ 32 from hx),Nat.mod_eq_of_lt (show y<2 ^ 32 from hy)]
 simp only [binD,intOp,if_true]
 exact congrArg (fun z=>some (D.i .u32 z)) ((congrArg (IntKind.wrap .u32) e).trans (wrapu32 (by omega) (by omega)))
theorem or64 {x y:Nat} (hx:x<18446744073709551616) (hy:y<18446744073709551616):binD .or .num (.i .u64 x) (.i .u64 y)=some (.i .u64 ((x ||| y:Nat):Int)):=by
 have ho:x ||| y<2 ^ 64:=Nat.or_lt_two_pow (show x<2 ^ 64 from hx) (show y<2 ^ 64 from hy)
 have e:((BitVec.ofInt 64 (x:Int) ||| BitVec.ofInt 64 (y:Int)).toNat:Int)=((x ||| y:Nat):Int):=by
  simp only [BitVec.ofInt_natCast,BitVec.toNat_or,BitVec.toNat_ofNat]
  rw [Nat.mod_eq_of_lt (show x<2 ^ 64 from hx),Nat.mod_eq_of_lt (show y<2 ^ 64 from hy)]
 simp only [binD,intOp,if_true]
 exact congrArg (fun z=>some (D.i .u64 z)) ((congrArg (IntKind.wrap .u64) e).trans (wrapu64 (by omega) (by omega)))
theorem orB {x y:Nat} (hx:x<B) (hy:y<B):binD .or .num (.i .u64 ((x * B:Nat):Int)) (.i .u64 y)=some (.i .u64 ((x * B+y:Nat):Int)):=by
 have hxB:x * B<18446744073709551616:=by simp only [B] at hx ⊢;omega
 rw [or64 hxB (by simp only [B] at hy;omega),Nat.or_comm]
 have:=or_add (x:=y) (y:=x) (s:=32) hy
 rw [B_two,this,Nat.add_comm]
def eLims (nl:Bool) (l:List Nat) (o:Own):D:=.sl 1 nl (List.map (fun n:Nat=>[D.i .u32 (n:Int)]) l) o
@[simp] theorem noRef_lims (nl:Bool) (l:List Nat):noRef (eLims nl l .ro)=true:=by
 simp only [eLims,noRef,Bool.true_and]
 exact noRefLL_map (fun n:Nat=>[D.i .u32 (n:Int)]) (fun _=>rfl) l
@[simp] theorem strip_lims (nl:Bool) (l:List Nat) (o:Own):strip (eLims nl l o)=eLims nl l .ro:=(rfl)
@[simp] theorem strip1_lims (nl:Bool) (l:List Nat) (o:Own):strip1 (eLims nl l o)=eLims nl l .ro:=(rfl)
@[simp] theorem stripT_lims (nl:Bool) (l:List Nat) (o:Own):stripT (eLims nl l o)=eLims nl l .ro:=(rfl)
@[simp] theorem isCell_lims (nl:Bool) (l:List Nat) (o:Own):isCell (eLims nl l o)=true:=(rfl)
@[simp] theorem cellsK_lims (m:Nat) (nl:Bool) (l:List Nat) (o:Own):cellsK m false (eLims nl l o)=some [eLims nl l o]:=(rfl)
@[simp] theorem len_lims (nl:Bool) (l:List Nat) (o:Own):lenD false (eLims nl l o)=some (.i .i64 l.length):=by simp [eLims,lenD]
theorem ia_lims {nl:Bool} {l:List Nat} {o:Own} {k:IntKind} {i:Nat} (h:i<l.length):iaD 1 (eLims nl l o) (.i k i)=some (.el [.i .u32 (dg l i:Nat)] 0):=by simp [eLims,iaD,dg,h]
@[simp] theorem slc_lims {nl:Bool} {l:List Nat} {o:Own} {k:IntKind} {n:Nat} (h:n≤l.length):slcD 1 (eLims nl l o) none (some (.i k n))=some (eLims nl (l.take n) .ro):=by
 have h':(n:Int)≤(l.length:Int):=by omega
 simp [slcD,bounds,eLims,h']
def eCells (l:List Nat):List D:=l.map fun n:Nat=>D.i .u32 (n:Int)
@[simp] theorem cells_len (l:List Nat):(eCells l).length=l.length:=by simp [eCells]
theorem cells_get {l:List Nat} {i:Nat} (h:i<l.length):(eCells l)[i]? = some (.i .u32 (dg l i:Nat)):=by simp [eCells,dg,h]
theorem cells_set:∀ (l:List Nat) (i x:Nat),fset (eCells l) i (.i .u32 x)=eCells (l.set i x)
 | [],_,_=>rfl
 | _::_,0,_=>rfl
 | y::l,i+1,x=>by simpa [eCells,fset] using cells_set l i x
theorem ld_cells {S:Store} {id:Nat} {l:List Nat} {i:Nat} (hS:sget S id=some (.box (eCells l))) (h:i<l.length):ldD S 1 false (.bx id i)=some (.i .u32 (dg l i:Nat)):=by
 simp [hS,cells_get h]
theorem st_cells {S:Store} {id:Nat} {l:List Nat} {i x:Nat} (hS:sget S id=some (.box (eCells l))) (h:i<l.length):stD S 1 false (.bx id i) (.i .u32 x)=some (sset S id (.box (eCells (l.set i x)))):=by
 have:i+1≤l.length:=h
 simp [hS,this,cells_set]
theorem ia_ar {id o n:Nat} {k:IntKind} {i:Nat} (h:i<n):iaD 1 (.ar 1 id o n) (.i k i)=some (.bx id (o+i)):=by
 have:(i:Int)<n:=by omega
 simp [iaD,this]
@[simp] theorem len_ar (k id o n:Nat):lenD false (.ar k id o n)=some (.i .i64 n):=(rfl)
theorem mksl_lims {S:Store} {n:Nat} (h:n≤maxLenD):mkslV 1 true [.i .u32 0] S (.i .i64 n)=some (.ar 1 S.length 0 n,.box (eCells (List.replicate n 0))::S):=by
 have h1:(n:Int)≤maxLenD:=by omega
 simp [mkslV,h1,eCells]
theorem chunks_cells:∀ (l:List Nat),chunks 1 l.length (eCells l)=l.map fun n:Nat=>[D.i .u32 (n:Int)]
 | []=>rfl
 | x::l=>by simp [chunks,eCells] ;exact chunks_cells l
theorem fz_lims {S:Store} {id:Nat} {l:List Nat} (hS:sget S id=some (.box (eCells l))):fzD (.ar 1 id 0 l.length) S=some (eLims false l .ro,sset S id .gone):=by
 simp only [fzD,hS,Nat.zero_add,Nat.mul_one,cells_len,Nat.le_refl,if_true,List.drop_zero,chunks_cells,eLims]
end Go.Proofs.YtjniafcnjbbomaaGreatDoor.DE.V

namespace Go.Proofs.YtjniafcnjbbomaaGreatDoor.DE
open Go
def s142 (cf:CallF) (a0:D) (a1:D) (a2:D) (S:Store) (Post:D→Store→Prop):Prop:=
 OX (convD .u64 a0) fun x1=>
 OX (convD .u64 a1) fun x2=>
 OX (binD .add .num x1 x2) fun x3=>
 OX (convD .u64 a2) fun x4=>
 OX (binD .add .num x3 x4) fun x5=>
 OX (convD .u32 x5) fun x6=>
 OX (binD .shr .num x5 (.i .u64 32)) fun x7=>
 OX (convD .u32 x7) fun x8=>
 Post (.tup [x6,x8]) S
theorem e142 (cf:CallF) (a0:D) (a1:D) (a2:D) (S:Store) (Post:D→Store→Prop):wp cf c142 (frame0 d142 [a0,a1,a2]) S (FinK d142.res Post)=s142 cf a0 a1 a2 S Post:=wpS_of (by kernel_rfl)
theorem i142 (a0:D) (a1:D) (a2:D) (r:D) (ha:noRefL (stripL [a0,a1,a2])=true) (hr:noRef r=true) (h:s142 (call dp) (strip a0) (strip a1) (strip a2) [] fun d _=>stripT d=r):isoCall (call dp) 142 [a0,a1,a2]=some r:=iso_s (f:=d142) rfl ⟨rfl,by decide⟩ ha hr (by rw [←e142] at h;exact h)
def s243 (cf:CallF) (a0:D) (a1:D) (a2:D) (S:Store) (Post:D→Store→Prop):Prop:=
 OX (binD .sub .num a0 a1) fun x1=>
 OX (binD .sub .num x1 a2) fun x2=>
 OX (unD .xor a0) fun x3=>
 OX (binD .and .num x3 a1) fun x4=>
 OX (binD .xor .num a0 a1) fun x5=>
 OX (unD .xor x5) fun x6=>
 OX (binD .and .num x6 x2) fun x7=>
 OX (binD .or .num x4 x7) fun x8=>
 OX (binD .shr .num x8 (.i .u64 31)) fun x9=>
 Post (.tup [x2,x9]) S
theorem e243 (cf:CallF) (a0:D) (a1:D) (a2:D) (S:Store) (Post:D→Store→Prop):wp cf c243 (frame0 d243 [a0,a1,a2]) S (FinK d243.res Post)=s243 cf a0 a1 a2 S Post:=wpS_of (by kernel_rfl)
theorem i243 (a0:D) (a1:D) (a2:D) (r:D) (ha:noRefL (stripL [a0,a1,a2])=true) (hr:noRef r=true) (h:s243 (call dp) (strip a0) (strip a1) (strip a2) [] fun d _=>stripT d=r):isoCall (call dp) 243 [a0,a1,a2]=some r:=iso_s (f:=d243) rfl ⟨rfl,by decide⟩ ha hr (by rw [←e243] at h;exact h)
def s268 (cf:CallF) (a0:D) (S:Store) (Post:D→Store→Prop):Prop:=
 OX (binD .geq .num a0 (.i .u32 65536)) fun x1=>
 jn (fun (y3:D) (y4:D) (y5:D) (S6:Store)=>
 OX (binD .geq .num y3 (.i .u32 256)) fun x7=>
 jn (fun (y9:D) (y10:D) (y11:D) (S12:Store)=>
 OX (convD .u8 y9) fun x13=>
 OX (ixsD (.s [0,1,2,2,3,3,3,3,4,4,4,4,4,4,4,4,5,5,5,5,5,5,5,5,5,5,5,5,5,5,5,5,6,6,6,6,6,6,6,6,6,6,6,6,6,6,6,6,6,6,6,6,6,6,6,6,6,6,6,6,6,6,6,6,7,7,7,7,7,7,7,7,7,7,7,7,7,7,7,7,7,7,7,7,7,7,7,7,7,7,7,7,7,7,7,7,7,7,7,7,7,7,7,7,7,7,7,7,7,7,7,7,7,7,7,7,7,7,7,7,7,7,7,7,7,7,7,7,8,8,8,8,8,8,8,8,8,8,8,8,8,8,8,8,8,8,8,8,8,8,8,8,8,8,8,8,8,8,8,8,8,8,8,8,8,8,8,8,8,8,8,8,8,8,8,8,8,8,8,8,8,8,8,8,8,8,8,8,8,8,8,8,8,8,8,8,8,8,8,8,8,8,8,8,8,8,8,8,8,8,8,8,8,8,8,8,8,8,8,8,8,8,8,8,8,8,8,8,8,8,8,8,8,8,8,8,8,8,8,8,8,8,8,8,8,8,8,8,8,8,8,8,8,8,8,8]) x13) fun x14=>
 OX (convD .i64 x14) fun x15=>
 OX (binD .add .num y10 x15) fun x16=>
 Post x16 S12) fun k8=>
 WB x7
 (OX (binD .shr .num y3 (.i .u64 8)) fun x17=>
 OX (binD .add .num y4 (.i .i64 8)) fun x18=>
 k8 x17 x18 D.top S6)
 (k8 y3 y4 x7 S6)) fun k2=>
 WB x1
 (OX (binD .shr .num a0 (.i .u64 16)) fun x19=>
 k2 x19 (.i .i64 16) D.top S)
 (k2 a0 (.i .i64 0) x1 S)
theorem e268 (cf:CallF) (a0:D) (S:Store) (Post:D→Store→Prop):wp cf c268 (frame0 d268 [a0]) S (FinK d268.res Post)=s268 cf a0 S Post:=wpS_of (by kernel_rfl)
theorem i268 (a0:D) (r:D) (ha:noRefL (stripL [a0])=true) (hr:noRef r=true) (h:s268 (call dp) (strip a0) [] fun d _=>stripT d=r):isoCall (call dp) 268 [a0]=some r:=iso_s (f:=d268) rfl ⟨rfl,by decide⟩ ha hr (by rw [←e268] at h;exact h)
def s212 (cf:CallF) (a0:D) (S:Store) (Post:D→Store→Prop):Prop:=
 OX (isoCall cf 268 [a0]) fun x1=>
 OX (binD .sub .num (.i .i64 32) x1) fun x2=>
 Post x2 S
theorem e212 (cf:CallF) (a0:D) (S:Store) (Post:D→Store→Prop):wp cf c212 (frame0 d212 [a0]) S (FinK d212.res Post)=s212 cf a0 S Post:=wpS_of (by kernel_rfl)
theorem i212 (a0:D) (r:D) (ha:noRefL (stripL [a0])=true) (hr:noRef r=true) (h:s212 (call dp) (strip a0) [] fun d _=>stripT d=r):isoCall (call dp) 212 [a0]=some r:=iso_s (f:=d212) rfl ⟨rfl,by decide⟩ ha hr (by rw [←e212] at h;exact h)
def s146_r0 (cf:CallF) (a0:D) (a2:D) (a3:D) (a15:D) (S:Store) (Q:Ex→List D→Store→Prop):Prop:=
 OX (slcD 1 a0 none (some a3)) fun x1=>
 Q .ret (mkf 21 [(0,.top),(2,x1),(3,.top),(15,.top)]) S
theorem e146_r0 (cf:CallF) (a0:D) (a2:D) (a3:D) (a15:D) (S:Store) (Q:Ex→List D→Store→Prop):wp cf c146_r0 (mkf 21 [(0,a0),(2,a2),(3,a3),(15,a15)]) S Q=s146_r0 cf a0 a2 a3 a15 S Q:=wpS_of (by kernel_rfl)
def s146_0 (cf:CallF) (a0:D) (a2:D) (a3:D) (a15:D) (S:Store) (Q:Ex→List D→Store→Prop):Prop:=
 OX (binD .gtr .num a3 (.i .i64 0)) fun x2=>
 OX (gsel x2 true (some a0)) fun x3=>
 OX (gsel x2 true (some a3)) fun x4=>
 OX (gsel x2 true (binD .sub .num x4 (.i .i64 1))) fun x5=>
 OX (gsel x2 true (iaD 1 x3 x5)) fun x6=>
 OX (gsel x2 true (ldD S 1 false x6)) fun x7=>
 OX (gsel x2 true (binD .eql .num x7 (.i .u32 0))) fun x8=>
 OX (pickD x2 x8 (.b false)) fun x9=>
 WB x9
 (OX (binD .sub .num a3 (.i .i64 1)) fun x10=>
 Q .normal (mkf 21 [(0,a0),(2,a2),(3,x10),(15,.top)]) S)
 (Q (.exit 0) (mkf 21 [(0,a0),(2,a2),(3,a3),(15,x9)]) S)
theorem e146_0 (cf:CallF) (a0:D) (a2:D) (a3:D) (a15:D) (S:Store) (Q:Ex→List D→Store→Prop):wp cf c146_0 (fkill (mkf 21 [(0,a0),(2,a2),(3,a3),(15,a15)]) []) S Q=s146_0 cf a0 a2 a3 a15 S Q:=wpS_of (by kernel_rfl)
def s146 (cf:CallF) (a0:D) (S:Store) (Post:D→Store→Prop):Prop:=
 OX (lenD false a0) fun x11=>
 W cf (.loop [] c146_0) (mkf 21 [(0,a0),(2,.top),(3,x11),(15,.top)]) S (Qblk 0 (QS cf c146_r0 (FinK [.t 2] Post)))
theorem e146 (cf:CallF) (a0:D) (S:Store) (Post:D→Store→Prop):wp cf c146 (frame0 d146 [a0]) S (FinK d146.res Post)=s146 cf a0 S Post:=wpS_of (by kernel_rfl)
theorem i146 (a0:D) (r:D) (ha:noRefL (stripL [a0])=true) (hr:noRef r=true) (h:s146 (call dp) (strip a0) [] fun d _=>stripT d=r):isoCall (call dp) 146 [a0]=some r:=iso_s (f:=d146) rfl ⟨rfl,by decide⟩ ha hr (by rw [←e146] at h;exact h)
def s105 (cf:CallF) (a0:D) (S:Store) (Post:D→Store→Prop):Prop:=
 OX (lenD false a0) fun x1=>
 OX (binD .leq .num x1 (.i .i64 128)) fun x2=>
 OX (gsel x2 true (some a0)) fun x3=>
 OX (gsel x2 true (lenD false x3)) fun x4=>
 OX (gsel x2 true (binD .eql .num x4 (.i .i64 0))) fun x5=>
 OX (gsel x2 true (some x5)) fun x6=>
 OX (gsel x6 false (some a0)) fun x7=>
 OX (gsel x6 false (some a0)) fun x8=>
 OX (gsel x6 false (lenD false x8)) fun x9=>
 OX (gsel x6 false (binD .sub .num x9 (.i .i64 1))) fun x10=>
 OX (gsel x6 false (iaD 1 x7 x10)) fun x11=>
 OX (gsel x6 false (ldD S 1 false x11)) fun x12=>
 OX (gsel x6 false (binD .neq .num x12 (.i .u32 0))) fun x13=>
 OX (gsel x2 true (pickD x6 (.b true) x13)) fun x14=>
 OX (pickD x2 x14 (.b false)) fun x15=>
 Post x15 S
theorem e105 (cf:CallF) (a0:D) (S:Store) (Post:D→Store→Prop):wp cf c105 (frame0 d105 [a0]) S (FinK d105.res Post)=s105 cf a0 S Post:=wpS_of (by kernel_rfl)
theorem i105 (a0:D) (r:D) (ha:noRefL (stripL [a0])=true) (hr:noRef r=true) (h:s105 (call dp) (strip a0) [] fun d _=>stripT d=r):isoCall (call dp) 105 [a0]=some r:=iso_s (f:=d105) rfl ⟨rfl,by decide⟩ ha hr (by rw [←e105] at h;exact h)
def s143 (cf:CallF) (a0:D) (S:Store) (Post:D→Store→Prop):Prop:=
 OX (isoCall cf 105 [a0]) fun x1=>
 OX (unD .not x1) fun x2=>
 WB x2
 (Post (.sl 1 true [] .ro) S)
 (Post a0 S)
theorem e143 (cf:CallF) (a0:D) (S:Store) (Post:D→Store→Prop):wp cf c143 (frame0 d143 [a0]) S (FinK d143.res Post)=s143 cf a0 S Post:=wpS_of (by kernel_rfl)
theorem i143 (a0:D) (r:D) (ha:noRefL (stripL [a0])=true) (hr:noRef r=true) (h:s143 (call dp) (strip a0) [] fun d _=>stripT d=r):isoCall (call dp) 143 [a0]=some r:=iso_s (f:=d143) rfl ⟨rfl,by decide⟩ ha hr (by rw [←e143] at h;exact h)
def s134 (cf:CallF) (a0:D) (S:Store) (Post:D→Store→Prop):Prop:=
 OX (isoCall cf 146 [a0]) fun x1=>
 OX (lenD false x1) fun x2=>
 OX (binD .gtr .num x2 (.i .i64 128)) fun x3=>
 WB x3
 (Post (.tup [(.sl 1 true [] .ro),(.i .i64 6)]) S)
 (Post (.tup [x1,(.i .i64 0)]) S)
theorem e134 (cf:CallF) (a0:D) (S:Store) (Post:D→Store→Prop):wp cf c134 (frame0 d134 [a0]) S (FinK d134.res Post)=s134 cf a0 S Post:=wpS_of (by kernel_rfl)
theorem i134 (a0:D) (r:D) (ha:noRefL (stripL [a0])=true) (hr:noRef r=true) (h:s134 (call dp) (strip a0) [] fun d _=>stripT d=r):isoCall (call dp) 134 [a0]=some r:=iso_s (f:=d134) rfl ⟨rfl,by decide⟩ ha hr (by rw [←e134] at h;exact h)
def s83 (cf:CallF) (a0:D) (S:Store) (Post:D→Store→Prop):Prop:=
 OX (convD .u32 a0) fun x1=>
 OX (binD .shr .num a0 (.i .u64 32)) fun x2=>
 OX (convD .u32 x2) fun x3=>
 OX (cellsV 1 false [x1,x3]) fun x4=>
 OX (isoCall cf 146 [(.sl 1 false x4 .ro)]) fun x5=>
 Post x5 S
theorem e83 (cf:CallF) (a0:D) (S:Store) (Post:D→Store→Prop):wp cf c83 (frame0 d83 [a0]) S (FinK d83.res Post)=s83 cf a0 S Post:=wpS_of (by kernel_rfl)
theorem i83 (a0:D) (r:D) (ha:noRefL (stripL [a0])=true) (hr:noRef r=true) (h:s83 (call dp) (strip a0) [] fun d _=>stripT d=r):isoCall (call dp) 83 [a0]=some r:=iso_s (f:=d83) rfl ⟨rfl,by decide⟩ ha hr (by rw [←e83] at h;exact h)
def s141 (cf:CallF) (a0:D) (S:Store) (Post:D→Store→Prop):Prop:=
 bxx 1 false a0 S fun x1 S2=>
 Post (.fn 221 [x1]) S2
theorem e141 (cf:CallF) (a0:D) (S:Store) (Post:D→Store→Prop):wp cf c141 (frame0 d141 [a0]) S (FinK d141.res Post)=s141 cf a0 S Post:=wpS_of (by kernel_rfl)
theorem f141 (a0:D) (S:Store) (Post:D→Store→Prop) (h:s141 (call dp) a0 S Post):∃ r S',call dp 141 [a0] S=some (r,S')∧Post r S':=call_s (f:=d141) rfl ⟨rfl,by decide⟩ (by rw [←e141] at h;exact h)
def s221 (cf:CallF) (a0:D) (a1:D) (S:Store) (Post:D→Store→Prop):Prop:=
 OX (ldD S 1 false a1) fun x1=>
 OX (lenD false x1) fun x2=>
 OX (binD .geq .num a0 x2) fun x3=>
 WB x3
 (Post (.i .u32 0) S)
 (OX (ldD S 1 false a1) fun x4=>
 OX (iaD 1 x4 a0) fun x5=>
 OX (ldD S 1 false x5) fun x6=>
 Post x6 S)
theorem e221 (cf:CallF) (a0:D) (a1:D) (S:Store) (Post:D→Store→Prop):wp cf c221 (frame0 d221 [a0,a1]) S (FinK d221.res Post)=s221 cf a0 a1 S Post:=wpS_of (by kernel_rfl)
theorem f221 (a0:D) (a1:D) (S:Store) (Post:D→Store→Prop) (h:s221 (call dp) a0 a1 S Post):∃ r S',call dp 221 [a0,a1] S=some (r,S')∧Post r S':=call_s (f:=d221) rfl ⟨rfl,by decide⟩ (by rw [←e221] at h;exact h)
def s222 (cf:CallF) (a0:D) (S:Store) (Post:D→Store→Prop):Prop:=
 OX (binD .neq .num a0 a0) fun x1=>
 Post x1 S
theorem e222 (cf:CallF) (a0:D) (S:Store) (Post:D→Store→Prop):wp cf c222 (frame0 d222 [a0]) S (FinK d222.res Post)=s222 cf a0 S Post:=wpS_of (by kernel_rfl)
theorem i222 (a0:D) (r:D) (ha:noRefL (stripL [a0])=true) (hr:noRef r=true) (h:s222 (call dp) (strip a0) [] fun d _=>stripT d=r):isoCall (call dp) 222 [a0]=some r:=iso_s (f:=d222) rfl ⟨rfl,by decide⟩ ha hr (by rw [←e222] at h;exact h)
def s223 (cf:CallF) (a0:D) (S:Store) (Post:D→Store→Prop):Prop:=
 OX (binD .neq .num a0 a0) fun x1=>
 Post x1 S
theorem e223 (cf:CallF) (a0:D) (S:Store) (Post:D→Store→Prop):wp cf c223 (frame0 d223 [a0]) S (FinK d223.res Post)=s223 cf a0 S Post:=wpS_of (by kernel_rfl)
theorem i223 (a0:D) (r:D) (ha:noRefL (stripL [a0])=true) (hr:noRef r=true) (h:s223 (call dp) (strip a0) [] fun d _=>stripT d=r):isoCall (call dp) 223 [a0]=some r:=iso_s (f:=d223) rfl ⟨rfl,by decide⟩ ha hr (by rw [←e223] at h;exact h)
def s144 (cf:CallF) (a0:D) (a1:D) (S:Store) (Post:D→Store→Prop):Prop:=
 OX (isoCall cf 222 [a0]) fun x1=>
 OX (isoCall cf 222 [a1]) fun x2=>
 WB x1
 (WB x2
 (Post (.i .i64 0) S)
 (Post (.i .i64 (-1)) S))
 (WB x2
 (Post (.i .i64 1) S)
 (OX (binD .lss .num a0 a1) fun x3=>
 WB x3
 (Post (.i .i64 (-1)) S)
 (OX (binD .gtr .num a0 a1) fun x4=>
 WB x4
 (Post (.i .i64 1) S)
 (Post (.i .i64 0) S))))
theorem e144 (cf:CallF) (a0:D) (a1:D) (S:Store) (Post:D→Store→Prop):wp cf c144 (frame0 d144 [a0,a1]) S (FinK d144.res Post)=s144 cf a0 a1 S Post:=wpS_of (by kernel_rfl)
theorem i144 (a0:D) (a1:D) (r:D) (ha:noRefL (stripL [a0,a1])=true) (hr:noRef r=true) (h:s144 (call dp) (strip a0) (strip a1) [] fun d _=>stripT d=r):isoCall (call dp) 144 [a0,a1]=some r:=iso_s (f:=d144) rfl ⟨rfl,by decide⟩ ha hr (by rw [←e144] at h;exact h)
def s145 (cf:CallF) (a0:D) (a1:D) (S:Store) (Post:D→Store→Prop):Prop:=
 OX (isoCall cf 223 [a0]) fun x1=>
 OX (isoCall cf 223 [a1]) fun x2=>
 WB x1
 (WB x2
 (Post (.i .i64 0) S)
 (Post (.i .i64 (-1)) S))
 (WB x2
 (Post (.i .i64 1) S)
 (OX (binD .lss .num a0 a1) fun x3=>
 WB x3
 (Post (.i .i64 (-1)) S)
 (OX (binD .gtr .num a0 a1) fun x4=>
 WB x4
 (Post (.i .i64 1) S)
 (Post (.i .i64 0) S))))
theorem e145 (cf:CallF) (a0:D) (a1:D) (S:Store) (Post:D→Store→Prop):wp cf c145 (frame0 d145 [a0,a1]) S (FinK d145.res Post)=s145 cf a0 a1 S Post:=wpS_of (by kernel_rfl)
theorem i145 (a0:D) (a1:D) (r:D) (ha:noRefL (stripL [a0,a1])=true) (hr:noRef r=true) (h:s145 (call dp) (strip a0) (strip a1) [] fun d _=>stripT d=r):isoCall (call dp) 145 [a0,a1]=some r:=iso_s (f:=d145) rfl ⟨rfl,by decide⟩ ha hr (by rw [←e145] at h;exact h)
def s82_r0 (cf:CallF) (a0:D) (a1:D) (a4:D) (a5:D) (a24:D) (S:Store) (Q:Ex→List D→Store→Prop):Prop:=
 Q .ret (mkf 45 [(0,.top),(1,.top),(4,(.i .i64 0)),(5,.top),(24,.top)]) S
theorem e82_r0 (cf:CallF) (a0:D) (a1:D) (a4:D) (a5:D) (a24:D) (S:Store) (Q:Ex→List D→Store→Prop):wp cf c82_r0 (mkf 45 [(0,a0),(1,a1),(4,a4),(5,a5),(24,a24)]) S Q=s82_r0 cf a0 a1 a4 a5 a24 S Q:=wpS_of (by kernel_rfl)
def s82_0 (cf:CallF) (a0:D) (a1:D) (a4:D) (a5:D) (a24:D) (S:Store) (Q:Ex→List D→Store→Prop):Prop:=
 OX (binD .geq .num a5 (.i .i64 0)) fun x1=>
 WB x1
 (OX (iaD 1 a0 a5) fun x2=>
 OX (ldD S 1 false x2) fun x3=>
 OX (iaD 1 a1 a5) fun x4=>
 OX (ldD S 1 false x4) fun x5=>
 OX (binD .neq .num x3 x5) fun x6=>
 WB x6
 (OX (iaD 1 a0 a5) fun x7=>
 OX (ldD S 1 false x7) fun x8=>
 OX (iaD 1 a1 a5) fun x9=>
 OX (ldD S 1 false x9) fun x10=>
 OX (isoCall cf 145 [x8,x10]) fun x11=>
 Q .ret (mkf 45 [(0,.top),(1,.top),(4,x11),(5,.top),(24,.top)]) S)
 (OX (binD .sub .num a5 (.i .i64 1)) fun x12=>
 Q .normal (mkf 45 [(0,a0),(1,a1),(4,a4),(5,x12),(24,.top)]) S))
 (Q (.exit 0) (mkf 45 [(0,a0),(1,a1),(4,a4),(5,a5),(24,x1)]) S)
theorem e82_0 (cf:CallF) (a0:D) (a1:D) (a4:D) (a5:D) (a24:D) (S:Store) (Q:Ex→List D→Store→Prop):wp cf c82_0 (fkill (mkf 45 [(0,a0),(1,a1),(4,a4),(5,a5),(24,a24)]) []) S Q=s82_0 cf a0 a1 a4 a5 a24 S Q:=wpS_of (by kernel_rfl)
def s82 (cf:CallF) (a0:D) (a1:D) (S:Store) (Post:D→Store→Prop):Prop:=
 OX (isoCall cf 143 [a0]) fun x13=>
 OX (isoCall cf 143 [a1]) fun x14=>
 OX (lenD false x13) fun x15=>
 OX (lenD false x14) fun x16=>
 OX (binD .neq .num x15 x16) fun x17=>
 WB x17
 (OX (lenD false x13) fun x18=>
 OX (lenD false x14) fun x19=>
 OX (isoCall cf 144 [x18,x19]) fun x20=>
 Post x20 S)
 (OX (lenD false x13) fun x21=>
 OX (binD .sub .num x21 (.i .i64 1)) fun x22=>
 W cf (.loop [] c82_0) (mkf 45 [(0,x13),(1,x14),(4,.top),(5,x22),(24,.top)]) S (Qblk 0 (QS cf c82_r0 (FinK [.t 4] Post))))
theorem e82 (cf:CallF) (a0:D) (a1:D) (S:Store) (Post:D→Store→Prop):wp cf c82 (frame0 d82 [a0,a1]) S (FinK d82.res Post)=s82 cf a0 a1 S Post:=wpS_of (by kernel_rfl)
theorem i82 (a0:D) (a1:D) (r:D) (ha:noRefL (stripL [a0,a1])=true) (hr:noRef r=true) (h:s82 (call dp) (strip a0) (strip a1) [] fun d _=>stripT d=r):isoCall (call dp) 82 [a0,a1]=some r:=iso_s (f:=d82) rfl ⟨rfl,by decide⟩ ha hr (by rw [←e82] at h;exact h)
end Go.Proofs.YtjniafcnjbbomaaGreatDoor.DE

namespace Go.Proofs.YtjniafcnjbbomaaGreatDoor.DE.V
open Go NL
theorem v142 {x y c:Nat} (hx:x<B) (hy:y<B) (hc:c≤1):isoCall (call dp) 142 [.i .u32 x,.i .u32 y,.i .u32 c]=some (.tup [.i .u32 (((x+y+c) % B:Nat):Int),.i .u32 (((x+y+c) / B:Nat):Int)]):=by
 have hB:B=4294967296:=rfl
 apply i142 _ _ _ _ (by simp [noRefL]) (by simp [noRef,noRefL])
 have h1:=add64 (a:=x) (b:=y) (by omega)
 have h2:=add64 (a:=x+y) (b:=c) (by omega)
 have hd:(x+y+c) / B<B:=by simp only [B] at *;omega
 simp only [s142,strip_i,conv64B hx,conv64B hy,conv64B (show c<B by omega),h1,h2,conv32m,shr32,Nat.mod_eq_of_lt hd,OX_some,stripT_tup,stripL_cons,stripL_nil]
theorem bv_top (v:BitVec 32):((v.toNat:Int)).fdiv (2 ^ 31)=if v.msb then 1 else 0:=by
 have e:((v.toNat:Int)).fdiv (2 ^ 31)=((v.toNat / 2 ^ 31:Nat):Int):=by
  rw [show ((2:Int) ^ 31)=((2 ^ 31:Nat):Int) by rfl,←Int.ofNat_fdiv]
 rw [e]
 have h:=v.isLt
 rw [BitVec.msb_eq_decide]
 by_cases hm:2 ^ 31≤v.toNat
 ·have:v.toNat / 2 ^ 31=1:=by omega
  simp [this,hm]
 ·have:v.toNat / 2 ^ 31=0:=by omega
  simp [this,hm]
def difL (x y b:Nat):Nat:=(x+2 * B-y-b) % B
def borL (x y b:Nat):Nat:=if x<y+b then 1 else 0
theorem difL_eq {x y b:Nat} (hx:x<B) (hy:y<B) (hb:b≤1):difL x y b+y+b=x+B * borL x y b:=by
 have hB:B=4294967296:=rfl
 unfold difL borL
 simp only [B] at *
 split <;> omega
theorem difL_lt (x y b:Nat):difL x y b<B:=Nat.mod_lt _ B_pos
theorem borL_le (x y b:Nat):borL x y b≤1:=by unfold borL;split <;> omega
theorem wrapu32s {x y b:Nat} (hx:x<B) (hy:y<B) (hb:b≤1):IntKind.wrap .u32 (IntKind.wrap .u32 ((x:Int)-y)-b)=difL x y b:=by
 have hB:B=4294967296:=rfl
 simp only [IntKind.wrap,IntKind.signed,IntKind.bits,difL]
 simp
 omega
theorem un_xor (x:Nat) (_:x<B):unD .xor (.i .u32 x)=some (.i .u32 (~~~ (BitVec.ofNat 32 x)).toNat):=by
 have h:=(~~~ (BitVec.ofNat 32 x)).isLt
 have e:BitVec.ofInt 32 (IntKind.max .u32) ^^^ BitVec.ofInt 32 (x:Int) = ~~~ (BitVec.ofNat 32 x):=by
  rw [BitVec.ofInt_natCast]
  have:BitVec.ofInt 32 (IntKind.max .u32)=BitVec.allOnes 32:=by decide
  rw [this,BitVec.allOnes_xor]
 simp only [unD,IntKind.signed,Bool.false_eq_true,if_false,intOp]
 have e2:=congrArg (fun v:BitVec 32=>(v.toNat:Int)) e
 exact congrArg (fun z=>some (D.i .u32 z)) ((congrArg (IntKind.wrap .u32) e2).trans (wrapu32 (by omega) (by omega)))
theorem bv_bin {op:BinOp} (v w:BitVec 32):(op = .and→binD op .num (.i .u32 v.toNat) (.i .u32 w.toNat)=some (.i .u32 (v &&& w).toNat))∧(op = .or→binD op .num (.i .u32 v.toNat) (.i .u32 w.toNat)=some (.i .u32 (v ||| w).toNat)) ∧
  (op = .xor→binD op .num (.i .u32 v.toNat) (.i .u32 w.toNat)=some (.i .u32 (v ^^^ w).toNat)):=by
 have hv:BitVec.ofInt 32 (v.toNat:Int)=v:=by simp
 have hw:BitVec.ofInt 32 (w.toNat:Int)=w:=by simp
 refine ⟨?_,?_,?_⟩
 ·rintro rfl
  have h:=(v &&& w).isLt
  simp only [binD,intOp,if_true]
  have e2:=congrArg (fun v:BitVec 32=>(v.toNat:Int)) (show BitVec.ofInt 32 (v.toNat:Int) &&& BitVec.ofInt 32 (w.toNat:Int)=v &&& w by rw [hv,hw])
  exact congrArg (fun z=>some (D.i .u32 z)) ((congrArg (IntKind.wrap .u32) e2).trans (wrapu32 (by omega) (by omega)))
 ·rintro rfl
  have h:=(v ||| w).isLt
  simp only [binD,intOp,if_true]
  have e2:=congrArg (fun v:BitVec 32=>(v.toNat:Int)) (show BitVec.ofInt 32 (v.toNat:Int) ||| BitVec.ofInt 32 (w.toNat:Int)=v ||| w by rw [hv,hw])
  exact congrArg (fun z=>some (D.i .u32 z)) ((congrArg (IntKind.wrap .u32) e2).trans (wrapu32 (by omega) (by omega)))
 ·rintro rfl
  have h:=(v ^^^ w).isLt
  simp only [binD,intOp,if_true]
  have e2:=congrArg (fun v:BitVec 32=>(v.toNat:Int)) (show BitVec.ofInt 32 (v.toNat:Int) ^^^ BitVec.ofInt 32 (w.toNat:Int)=v ^^^ w by rw [hv,hw])
  exact congrArg (fun z=>some (D.i .u32 z)) ((congrArg (IntKind.wrap .u32) e2).trans (wrapu32 (by omega) (by omega)))
theorem bor_bits {x y b:Nat} (hx:x<B) (hy:y<B) (hb:b≤1) :
  (((~~~ (BitVec.ofNat 32 x)) &&& BitVec.ofNat 32 y) ||| ((~~~ (BitVec.ofNat 32 x ^^^ BitVec.ofNat 32 y)) &&& BitVec.ofNat 32 (difL x y b))).msb=decide (x<y+b):=by
 have hB:B=4294967296:=rfl
 have m:∀ z,z<B→(BitVec.ofNat 32 z).msb=decide (2147483648≤z):=by
  intro z hz
  rw [BitVec.msb_eq_decide,BitVec.toNat_ofNat,Nat.mod_eq_of_lt (show z<2 ^ 32 from hz)]
 rw [BitVec.msb_or,BitVec.msb_and,BitVec.msb_and,BitVec.msb_not,BitVec.msb_not,BitVec.msb_xor,m x hx,m y hy,m _ (difL_lt x y b)]
 simp only [show (0<32)=True by simp,decide_true,Bool.true_and]
 have hd:=difL_eq hx hy hb
 have hd2:=difL_lt x y b
 generalize difL x y b=d at *
 by_cases c:x<y+b
 ·have:borL x y b=1:=if_pos c
  rw [this] at hd
  by_cases c1:2147483648≤x <;> by_cases c2:2147483648≤y <;> by_cases c3:2147483648≤d <;> simp [c,c1,c2,c3] <;> omega
 ·have:borL x y b=0:=if_neg c
  rw [this] at hd
  by_cases c1:2147483648≤x <;> by_cases c2:2147483648≤y <;> by_cases c3:2147483648≤d <;> simp [c,c1,c2,c3] <;> omega
theorem v243 {x y b:Nat} (hx:x<B) (hy:y<B) (hb:b≤1):isoCall (call dp) 243 [.i .u32 x,.i .u32 y,.i .u32 b]=some (.tup [.i .u32 (difL x y b:Nat),.i .u32 (borL x y b:Nat)]):=by
 have hB:B=4294967296:=rfl
 apply i243 _ _ _ _ (by simp [noRefL]) (by simp [noRef,noRefL])
 have ex:D.i .u32 (x:Int) = .i .u32 ((BitVec.ofNat 32 x).toNat:Int):=by rw [BitVec.toNat_ofNat,Nat.mod_eq_of_lt (show x<2 ^ 32 from hx)]
 have ey:D.i .u32 (y:Int) = .i .u32 ((BitVec.ofNat 32 y).toNat:Int):=by rw [BitVec.toNat_ofNat,Nat.mod_eq_of_lt (show y<2 ^ 32 from hy)]
 have ed:D.i .u32 (difL x y b:Int) = .i .u32 ((BitVec.ofNat 32 (difL x y b)).toNat:Int):=by rw [BitVec.toNat_ofNat,Nat.mod_eq_of_lt (show difL x y b<2 ^ 32 from difL_lt x y b)]
 have h1:binD .sub .num (.i .u32 x) (.i .u32 y)=some (.i .u32 (IntKind.wrap .u32 ((x:Int)-y))):=bin_sub _ _ _
 have h2:binD .sub .num (.i .u32 (IntKind.wrap .u32 ((x:Int)-y))) (.i .u32 b)=some (.i .u32 (difL x y b:Nat)):=by rw [bin_sub,wrapu32s hx hy hb]
 have h3:=un_xor x hx
 have h4:=(bv_bin (op:=.and) (~~~ (BitVec.ofNat 32 x)) (BitVec.ofNat 32 y)).1 rfl
 rw [←ey] at h4
 have h5:=(bv_bin (op:=.xor) (BitVec.ofNat 32 x) (BitVec.ofNat 32 y)).2.2 rfl
 rw [←ex,←ey] at h5
 have h6:=un_xor (BitVec.ofNat 32 x ^^^ BitVec.ofNat 32 y).toNat (BitVec.isLt _)
 rw [BitVec.ofNat_toNat,BitVec.setWidth_eq] at h6
 have h7:=(bv_bin (op:=.and) (~~~ (BitVec.ofNat 32 x ^^^ BitVec.ofNat 32 y)) (BitVec.ofNat 32 (difL x y b))).1 rfl
 rw [←ed] at h7
 have h8:=(bv_bin (op:=.or) (~~~ (BitVec.ofNat 32 x) &&& BitVec.ofNat 32 y) (~~~ (BitVec.ofNat 32 x ^^^ BitVec.ofNat 32 y) &&& BitVec.ofNat 32 (difL x y b))).2.1 rfl
 have h9:=shr_any (k:=.u32) (k':=.u64) (v:=(~~~ (BitVec.ofNat 32 x) &&& BitVec.ofNat 32 y ||| ~~~ (BitVec.ofNat 32 x ^^^ BitVec.ofNat 32 y) &&& BitVec.ofNat 32 (difL x y b)).toNat) (s:=31) (by decide)
 have ht:=bv_top (~~~ (BitVec.ofNat 32 x) &&& BitVec.ofNat 32 y ||| ~~~ (BitVec.ofNat 32 x ^^^ BitVec.ofNat 32 y) &&& BitVec.ofNat 32 (difL x y b))
 rw [bor_bits hx hy hb] at ht
 have e9:((~~~ (BitVec.ofNat 32 x) &&& BitVec.ofNat 32 y ||| ~~~ (BitVec.ofNat 32 x ^^^ BitVec.ofNat 32 y) &&& BitVec.ofNat 32 (difL x y b)).toNat / 2 ^ 31:Nat)=borL x y b:=by
  have e:(((~~~ (BitVec.ofNat 32 x) &&& BitVec.ofNat 32 y ||| ~~~ (BitVec.ofNat 32 x ^^^ BitVec.ofNat 32 y) &&& BitVec.ofNat 32 (difL x y b)).toNat:Int)).fdiv (2 ^ 31)=(((~~~ (BitVec.ofNat 32 x) &&& BitVec.ofNat 32 y ||| ~~~ (BitVec.ofNat 32 x ^^^ BitVec.ofNat 32 y) &&& BitVec.ofNat 32 (difL x y b)).toNat / 2 ^ 31:Nat):Int):=by
   rw [show ((2:Int) ^ 31)=((2 ^ 31:Nat):Int) by rfl,←Int.ofNat_fdiv]
  rw [e] at ht
  unfold borL
  by_cases c:x<y+b
  ·rw [if_pos (by simpa using c)] at ht;rw [if_pos c];omega
  ·rw [if_neg (by simpa using c)] at ht;rw [if_neg c];omega
 rw [e9] at h9
 simp only [s243,strip_i,h1,h2,h3,h4,h5,h6,h7,h8,OX_some]
 rw [show (31:Int)=((31:Nat):Int) from rfl,h9]
 simp
def lenB (x:Nat):Nat:=if x=0 then 0 else Nat.log2 x+1
theorem len8:∀ x,x<256→([0,1,2,2,3,3,3,3,4,4,4,4,4,4,4,4,5,5,5,5,5,5,5,5,5,5,5,5,5,5,5,5,6,6,6,6,6,6,6,6,6,6,6,6,6,6,6,6,6,6,6,6,6,6,6,6,6,6,6,6,6,6,6,6,7,7,7,7,7,7,7,7,7,7,7,7,7,7,7,7,7,7,7,7,7,7,7,7,7,7,7,7,7,7,7,7,7,7,7,7,7,7,7,7,7,7,7,7,7,7,7,7,7,7,7,7,7,7,7,7,7,7,7,7,7,7,7,7,8,8,8,8,8,8,8,8,8,8,8,8,8,8,8,8,8,8,8,8,8,8,8,8,8,8,8,8,8,8,8,8,8,8,8,8,8,8,8,8,8,8,8,8,8,8,8,8,8,8,8,8,8,8,8,8,8,8,8,8,8,8,8,8,8,8,8,8,8,8,8,8,8,8,8,8,8,8,8,8,8,8,8,8,8,8,8,8,8,8,8,8,8,8,8,8,8,8,8,8,8,8,8,8,8,8,8,8,8,8,8,8,8,8,8,8,8,8,8,8,8,8,8,8,8,8,8,8]:List UInt8)[x]? = some (UInt8.ofNat (lenB x)):=by decide +kernel
theorem log2_shift {x s:Nat} (h:2 ^ s≤x):Nat.log2 x=Nat.log2 (x / 2 ^ s)+s:=by
 induction s generalizing x with
 | zero=>simp
 | succ s ih=>
  have h2:2≤x:=by
   have:2 ^ (s+1)=2 ^ s * 2:=Nat.pow_succ ..
   have:=Nat.two_pow_pos s
   omega
  rw [Nat.log2_def,if_pos h2,ih (x:=x / 2) (by rw [Nat.le_div_iff_mul_le (by decide),←Nat.pow_succ];exact h),Nat.div_div_eq_div_mul,Nat.pow_succ',Nat.mul_comm 2]
  omega
theorem lenB_shift {x s:Nat} (h:2 ^ s≤x):lenB x=lenB (x / 2 ^ s)+s:=by
 have hp:=Nat.two_pow_pos s
 have h1:x≠0:=by omega
 have h2:x / 2 ^ s≠0:=by
  have:=(Nat.le_div_iff_mul_le hp).2 (show 1 * 2 ^ s≤x by omega)
  omega
 unfold lenB
 rw [if_neg h1,if_neg h2,log2_shift h]
 omega
theorem lenB_lt {x s:Nat} (h:x<2 ^ s):lenB x≤s:=by
 unfold lenB
 split
 ·omega
 ·rename_i h0
  exact (Nat.log2_lt h0).2 h
end Go.Proofs.YtjniafcnjbbomaaGreatDoor.DE.V

namespace Go.Proofs.YtjniafcnjbbomaaGreatDoor.DE.V
open Go NL
theorem ixs_len8 {x:Nat} (h:x<256) {l:List UInt8} (hl:l[x]? = some (UInt8.ofNat (lenB x))):ixsD (.s l) (.i .u8 x)=some (.i .u8 (lenB x:Nat)):=by
 have h2:lenB x≤8:=lenB_lt (s:=8) h
 simp only [ixsD]
 rw [if_pos (by omega),Int.toNat_natCast,hl]
 simp
 omega
theorem conv8 {k:IntKind} {n:Nat} (h:n<256):convD .u8 (.i k n)=some (.i .u8 n):=by
 rw [conv_i]
 have e:IntKind.wrap .u8 (n:Int)=n:=by
  simp [IntKind.wrap,IntKind.signed,IntKind.bits];omega
 rw [e]
theorem convI {k:IntKind} {n:Nat} (h:n<9223372036854775808):convD .i64 (.i k n)=some (.i .i64 n):=by rw [conv_i,wrapN h]
theorem fin268 {l:List UInt8} (hl:∀ x,x<256→l[x]? = some (UInt8.ofNat (lenB x))) {x y n:Nat} (hy:y<256) (he:n+lenB y=lenB x) (hn:n≤24) {Q:D→Prop} (hQ:Q (.i .i64 (lenB x:Nat))) :
  OX (convD .u8 (.i .u32 y)) fun x13=>OX (ixsD (.s l) x13) fun x14=>OX (convD .i64 x14) fun x15=>OX (binD .add .num (.i .i64 n) x15) fun x16=>Q x16:=by
 have h8:lenB y≤8:=lenB_lt (s:=8) hy
 rw [conv8 hy,OX_some,ixs_len8 hy (hl y hy),OX_some,convI (by omega),OX_some,bin_add,←Int.natCast_add,he,wrapN (by omega),OX_some]
 exact hQ
theorem geq32 (x n:Nat):binD .geq .num (.i .u32 x) (.i .u32 n)=some (.b (decide (n≤x))):=by rw [bin_geq];congr 2;simp
set_option maxRecDepth 20000 in
theorem v268 {x:Nat} (hx:x<B):isoCall (call dp) 268 [.i .u32 x]=some (.i .i64 (lenB x:Nat)):=by
 apply i268 _ _ (by simp [noRefL]) (by simp)
 have g1:=geq32 x 65536
 simp only [Int.cast_ofNat_Int] at g1
 unfold s268
 simp only [strip_i,g1,OX_some,jn,WB_b]
 by_cases c1:65536≤x
 ·have e1:x / 65536<65536:=by simp only [B] at hx;omega
  have hs:=shr_any (k:=.u32) (k':=.u64) (v:=x) (s:=16) (by decide)
  simp only [Int.cast_ofNat_Int] at hs
  have l1:=lenB_shift (x:=x) (s:=16) c1
  rw [show (2:Nat) ^ 16=65536 from rfl] at hs l1
  have g2:=geq32 (x / 65536) 256
  simp only [Int.cast_ofNat_Int] at g2
  simp only [c1,decide_true,if_true,hs,OX_some,g2,WB_b]
  by_cases c2:256≤x / 65536
  ·have hs2:=shr_any (k:=.u32) (k':=.u64) (v:=x / 65536) (s:=8) (by decide)
   simp only [Int.cast_ofNat_Int] at hs2
   have l2:=lenB_shift (x:=x / 65536) (s:=8) c2
   rw [show (2:Nat) ^ 8=256 from rfl] at hs2 l2
   simp only [c2,decide_true,if_true,hs2,OX_some,bin_add]
   exact fin268 len8 (n:=24) (by omega) (by omega) (by omega) rfl
  ·simp only [c2,decide_false,Bool.false_eq_true,if_false]
   exact fin268 len8 (n:=16) (by omega) (by omega) (by omega) rfl
 ·have g2:=geq32 x 256
  simp only [Int.cast_ofNat_Int] at g2
  simp only [c1,decide_false,Bool.false_eq_true,if_false,OX_some,g2,WB_b]
  by_cases c2:256≤x
  ·have hs2:=shr_any (k:=.u32) (k':=.u64) (v:=x) (s:=8) (by decide)
   simp only [Int.cast_ofNat_Int] at hs2
   have l2:=lenB_shift (x:=x) (s:=8) c2
   rw [show (2:Nat) ^ 8=256 from rfl] at hs2 l2
   simp only [c2,decide_true,if_true,hs2,OX_some,bin_add]
   exact fin268 len8 (n:=8) (by omega) (by omega) (by omega) rfl
  ·simp only [c2,decide_false,Bool.false_eq_true,if_false]
   exact fin268 len8 (n:=0) (by omega) (by omega) (by omega) rfl
theorem v212 {x:Nat} (hx:x<B) (h0:x≠0):isoCall (call dp) 212 [.i .u32 x]=some (.i .i64 ((31-Nat.log2 x:Nat):Int)):=by
 apply i212 _ _ (by simp [noRefL]) (by simp)
 have hl:Nat.log2 x<32:=(Nat.log2_lt h0).2 hx
 have e:lenB x=Nat.log2 x+1:=if_neg h0
 simp only [s212,strip_i,v268 hx,OX_some,bin_sub,e,stripT_i]
 rw [wrap64 ⟨by omega,by omega⟩]
 congr 1;omega
end Go.Proofs.YtjniafcnjbbomaaGreatDoor.DE.V

namespace Go.Proofs.YtjniafcnjbbomaaGreatDoor.DE.V
open Go NL
def VN (l:List Nat):Prop:=l.length≤128∧l.getLast? ≠ some 0
theorem VN.can {l:List Nat} (h:VN l) (k:Lim l):NL.Can l:=⟨k,h.2⟩
theorem vn_ofN {n:Nat}:VN (ofN n)↔Lt128 n:=⟨fun h=>(lt128_iff n).2 h.1,fun h=>⟨(lt128_iff n).1 h,last_ofN n⟩⟩
theorem last_dg {l:List Nat} (h:l≠[]):l.getLast? = some (dg l (l.length-1)):=by
 rw [List.getLast?_eq_getElem?]
 have:l.length≠0:=by simpa using h
 exact get_dg (by omega)
open Classical in
theorem v105 (nl:Bool) (l:List Nat) (hb:Bd l.length):isoCall (call dp) 105 [eLims nl l .ro]=some (.b (decide (VN l))):=by
 apply i105 _ _ (by simp [noRefL]) rfl
 simp only [s105,strip_lims,len_lims,OX_some,bin_leq]
 by_cases h1:l.length≤128
 ·have h1':(l.length:Int)≤128:=by omega
  by_cases h2:l=[]
  ·subst h2
   have:VN []:=⟨by simp,by simp⟩
   simp [this]
  ·have hl:l.length≠0:=by simpa using h2
   have hw:IntKind.i64.wrap ((l.length:Int)-1)=((l.length-1:Nat):Int):=by rw [wrap64 ⟨by omega,by omega⟩];omega
   have hia:=ia_lims (nl:=nl) (o:=.ro) (k:=.i64) (l:=l) (i:=l.length-1) (by omega)
   have hv:VN l↔dg l (l.length-1)≠0:=by
    unfold VN
    rw [last_dg h2]
    simp [h1]
   simp [h1',h2,hw,hia,hv]
 ·have h1':¬(l.length:Int)≤128:=by omega
  have:¬VN l:=fun h=>h1 h.1
  simp [h1',this]
theorem v143 (nl:Bool) (l:List Nat) (hv:VN l):isoCall (call dp) 143 [eLims nl l .ro]=some (eLims nl l .ro):=by
 apply i143 _ _ (by simp [noRefL]) (by simp)
 simp [s143,v105 nl l (by have:=hv.1;unfold Bd;omega),hv]
theorem take_can {l:List Nat} (h:Lim l) {n:Nat} (hn:n≤l.length) (hz:∀ j,n≤j→dg l j=0) (ht:n=0∨dg l (n-1)≠0):l.take n=ofN (val l):=by
 have hv:val (l.take n)=val l:=by
  have key:∀ k,val (l.take (n+k))=val (l.take n):=by
   intro k
   induction k with
   | zero=>rfl
   | succ k ih=>rw [←Nat.add_assoc,vt_succ,hz _ (by omega),ih];simp
  have:=key l.length
  rw [vt_full (by omega)] at this
  exact this.symm
 rw [←hv]
 refine (ofN_val ⟨lim_take n h,?_⟩).symm
 rcases ht with rfl | ht
 ·simp
 ·have h0:n≠0:=by
   rintro rfl
   exact ht (hz _ (by omega))
  have hne:l.take n≠[]:=by
   intro e
   have:(l.take n).length=0:=by rw [e];rfl
   rw [List.length_take] at this
   omega
  rw [last_dg hne,List.length_take,Nat.min_eq_left hn]
  have:dg (l.take n) (n-1)=dg l (n-1):=by
   unfold dg
   rw [List.getElem?_take_of_lt (by omega)]
  rw [this]
  simpa using ht
theorem v146 (nl:Bool) (l:List Nat) (h:Lim l) (hb:Bd l.length):isoCall (call dp) 146 [eLims nl l .ro]=some (eLims nl (ofN (val l)) .ro):=by
 apply i146 _ _ (by simp [noRefL]) (by simp)
 simp only [s146,strip_lims,len_lims,OX_some]
 let J:Nat→List D→Store→Prop:=fun q fr S=>∃ n a2 a15,q=n∧n≤l.length∧(∀ j,n≤j→dg l j=0)∧fr=mkf 21 [(0,eLims nl l .ro),(2,a2),(3,.i .i64 n),(15,a15)]
 refine W_loop J ?_ l.length _ _ ⟨l.length,_,_,rfl,Nat.le_refl _,fun j hj=>dg_ge hj,rfl⟩
 rintro q fr S ⟨n,a2,a15,rfl,hle,hz,rfl⟩
 rw [←wp_W,e146_0]
 have fin:(q=0∨dg l (q-1)≠0)→slcD 1 (eLims nl l .ro) none (some (.i .i64 q))=some (eLims nl (ofN (val l)) .ro):=fun ht=>by
  rw [slc_lims hle,take_can h hle hz ht]
 by_cases hpos:0<q
 ·obtain ⟨m,rfl⟩:∃ m,q=m+1:=⟨q-1,by omega⟩
  have w:IntKind.i64.wrap (m:Int)=m:=wrapN (by unfold Bd at hb;omega)
  have hp':(0:Int)<(m:Int)+1:=by omega
  have hia:=ia_lims (nl:=nl) (o:=.ro) (k:=.i64) (l:=l) (i:=m) (by omega)
  by_cases hd:dg l m=0
  ·simp [s146_0,hp',w,hia,hd]
   refine ⟨m,by omega,m,_,_,rfl,by omega,fun j hj=>?_,rfl⟩
   by_cases e:j=m
   ·rw [e];exact hd
   ·exact hz j (by omega)
  ·have hf:=fin (.inr (by simpa using hd))
   simp only [Int.natCast_add,Int.cast_ofNat_Int] at hf
   simp [s146_0,hp',w,hia,hd,e146_r0,s146_r0,hf]
 ·have h0:q=0:=by omega
  have hf:=fin (.inl h0)
  subst h0
  simp only [Int.cast_ofNat_Int] at hf
  simp [s146_0,e146_r0,s146_r0,hf]
theorem v134 (nl:Bool) (l:List Nat) (h:Lim l) (hb:Bd l.length) :
  isoCall (call dp) 134 [eLims nl l .ro]=some (if Lt128 (val l) then .tup [eLims nl (ofN (val l)) .ro,.i .i64 0] else .tup [.sl 1 true [] .ro,.i .i64 6]):=by
 apply i134 _ _ (by simp [noRefL]) (by split <;> simp [noRef,noRefL,noRefLL])
 simp only [s134,strip_lims,v146 nl l h hb,OX_some,len_lims,bin_gtr]
 by_cases hc:Lt128 (val l)
 ·have:¬(128:Int)<(ofN (val l)).length:=by have:=(lt128_iff _).1 hc;omega
  simp [hc,this]
 ·have:(128:Int)<(ofN (val l)).length:=by have:=Nat.lt_of_not_le fun k=>hc ((lt128_iff _).2 k);omega
  simp [hc,this,strip]
theorem two_limbs {n:Nat} (h:n<18446744073709551616):Lim [n % B,n / B]∧val [n % B,n / B]=n:=by
 refine ⟨?_,?_⟩
 ·intro x hx
  simp only [B] at *
  simp at hx
  omega
 ·simp only [val,Nat.mul_zero,Nat.add_zero]
  exact Nat.mod_add_div n B
theorem v83 {n:Nat} (h:n<18446744073709551616):isoCall (call dp) 83 [.i .u64 n]=some (eLims false (ofN n) .ro):=by
 apply i83 _ _ (by simp [noRefL]) (by simp)
 obtain ⟨h1,h2⟩:=two_limbs h
 have hd:n / B<B:=h1 _ (by simp)
 have e:=v146 false [n % B,n / B] h1 (by unfold Bd;simp)
 rw [h2] at e
 have hc:∀ a b:D,isCell a=true→isCell b=true→cellsV 1 false [a,b]=some [[a],[b]]:=fun a b ha hb=>by simp [cellsV,cellsK,ha,hb]
 simp only [s83,strip_i,conv32m,OX_some,shr32,conv32 hd,hc _ _ (isCell_i _ _) (isCell_i _ _)]
 have e':isoCall (call dp) 146 [.sl 1 false [[.i .u32 ((n % B:Nat):Int)],[.i .u32 ((n / B:Nat):Int)]] .ro]=some (eLims false (ofN n) .ro):=e
 rw [e']
 simp
theorem v141 (nl:Bool) (l:List Nat) (S:Store):call dp 141 [eLims nl l .ro] S=some (.fn 221 [.bx S.length 0],.box [eLims nl l .ro]::S):=by
 obtain ⟨r,S',e,rfl,rfl⟩:=f141 (eLims nl l .ro) S (fun d S'=>d = .fn 221 [.bx S.length 0]∧S' = .box [eLims nl l .ro]::S) (by simp [s141])
 exact e
theorem v221 (nl:Bool) (l:List Nat) (k id:Nat) (S:Store) (h:sget S id=some (.box [eLims nl l .ro])):call dp 221 [.i .i64 k,.bx id 0] S=some (.i .u32 (dg l k:Nat),S):=by
 obtain ⟨r,S',e,rfl,rfl⟩:=f221 (.i .i64 k) (.bx id 0) S (fun d S'=>d = .i .u32 (dg l k:Nat)∧S'=S) (by
  by_cases hk:l.length≤k
  ·have hk':(l.length:Int)≤k:=by omega
   simp [s221,h,hk',dg_ge hk]
  ·have hk':¬(l.length:Int)≤k:=by omega
   have hia:=ia_lims (nl:=nl) (o:=.ro) (k:=.i64) (l:=l) (i:=k) (by omega)
   simp [s221,h,hk',hia])
 exact e
theorem v222 (n:Int):isoCall (call dp) 222 [.i .i64 n]=some (.b false):=by
 apply i222 _ _ (by simp [noRefL]) rfl
 simp [s222]
theorem v223 (n:Int):isoCall (call dp) 223 [.i .u32 n]=some (.b false):=by
 apply i223 _ _ (by simp [noRefL]) rfl
 simp [s223]
theorem v144 (a b:Nat):isoCall (call dp) 144 [.i .i64 a,.i .i64 b]=some (.i .i64 (sgn a b)):=by
 apply i144 _ _ _ (by simp [noRefL]) rfl
 simp only [s144,strip_i,v222,OX_some,WB_b,Bool.false_eq_true,if_false,bin_lss,bin_gtr,decide_eq_true_eq]
 unfold sgn
 rcases Nat.lt_trichotomy a b with h | h | h
 ·rw [if_pos (by omega),if_pos h];rfl
 ·rw [if_neg (by omega),if_neg (by omega),if_neg (by omega),if_pos h];rfl
 ·rw [if_neg (by omega),if_pos (by omega),if_neg (by omega),if_neg (by omega)];rfl
theorem v145 (a b:Nat):isoCall (call dp) 145 [.i .u32 a,.i .u32 b]=some (.i .i64 (sgn a b)):=by
 apply i145 _ _ _ (by simp [noRefL]) rfl
 simp only [s145,strip_i,v223,OX_some,WB_b,Bool.false_eq_true,if_false,bin_lss,bin_gtr,decide_eq_true_eq]
 unfold sgn
 rcases Nat.lt_trichotomy a b with h | h | h
 ·rw [if_pos (by omega),if_pos h];rfl
 ·rw [if_neg (by omega),if_neg (by omega),if_neg (by omega),if_pos h];rfl
 ·rw [if_neg (by omega),if_pos (by omega),if_neg (by omega),if_neg (by omega)];rfl
theorem sgn_of {x y a b:Nat} (h1:a<b→x<y) (h2:b<a→y<x) (h3:a≠b):sgn a b=sgn x y:=by
 unfold sgn
 rcases Nat.lt_or_ge a b with h | h
 ·rw [if_pos h,if_pos (h1 h)]
 ·have h':b<a:=by omega
  have:=h2 h'
  rw [if_neg (by omega),if_neg (by omega),if_neg (by omega),if_neg (by omega)]
theorem drop_eq {a b:List Nat} {k:Nat} (ha:k<a.length) (hb:k<b.length) (h:a.drop (k+1)=b.drop (k+1)) (e:dg a k=dg b k):a.drop k=b.drop k:=by
 rw [drop_dg ha,drop_dg hb,e,h]
theorem v82 (nl nl':Bool) (a b:List Nat) (ha:VN a) (hb:VN b) (la:Lim a) (lb:Lim b):isoCall (call dp) 82 [eLims nl a .ro,eLims nl' b .ro]=some (.i .i64 (sgn (val a) (val b))):=by
 apply i82 _ _ _ (by simp [noRefL]) rfl
 have h1:=ha.1
 have h2:=hb.1
 simp only [s82,strip_lims,v143 nl a ha,v143 nl' b hb,OX_some,len_lims,bin_neq,WB_b]
 by_cases hl:a.length=b.length
 ·have hl':(a.length:Int)=(b.length:Int):=by omega
  simp only [hl',decide_true,Bool.not_true,Bool.false_eq_true,if_false,bin_sub,OX_some]
  rw [wrap64 ⟨by omega,by omega⟩]
  let J:Nat→List D→Store→Prop:=fun q fr S=>∃ a4 a24,q≤b.length∧a.drop q=b.drop q∧fr=mkf 45 [(0,eLims nl a .ro),(1,eLims nl' b .ro),(4,a4),(5,.i .i64 ((q:Int)-1)),(24,a24)]
  refine W_loop J ?_ b.length _ _ ⟨_,_,Nat.le_refl _,by rw [List.drop_of_length_le (by omega),List.drop_of_length_le (by omega)],rfl⟩
  rintro q fr S ⟨a4,a24,hq,he,rfl⟩
  rw [←wp_W,e82_0]
  by_cases h0:q=0
  ·subst h0
   have:a=b:=by simpa using he
   subst this
   simp [s82_0,e82_r0,s82_r0,sgn]
  ·obtain ⟨k,rfl⟩:∃ k,q=k+1:=⟨q-1,by omega⟩
   have e1:((k+1:Nat):Int)-1=k:=by omega
   have i1:=ia_lims (nl:=nl) (o:=.ro) (k:=.i64) (l:=a) (i:=k) (by omega)
   have i2:=ia_lims (nl:=nl') (o:=.ro) (k:=.i64) (l:=b) (i:=k) (by omega)
   rw [e1]
   by_cases hd:dg a k=dg b k
   ·have w:IntKind.i64.wrap ((k:Int)-1)=(k:Int)-1:=wrap64 ⟨by omega,by omega⟩
    have e2:((dg a k:Nat):Int)=((dg b k:Nat):Int):=by omega
    simp [s82_0,i1,i2,hd,w]
    exact ⟨k,by omega,_,_,by omega,drop_eq (by omega) (by omega) he hd,rfl⟩
   ·have e2:¬((dg a k:Nat):Int)=((dg b k:Nat):Int):=by omega
    have hs:=sgn_of (x:=val a) (y:=val b) (a:=dg a k) (b:=dg b k) (fun h=>lt_at la he (get_dg (by omega)) (get_dg (by omega)) h) (fun h=>lt_at lb he.symm (get_dg (by omega)) (get_dg (by omega)) h) hd
    simp [s82_0,i1,i2,e2,v145,hs,hd]
 ·have hl':¬(a.length:Int)=(b.length:Int):=by omega
  have hs:=sgn_of (x:=val a) (y:=val b) (a:=a.length) (b:=b.length) (fun h=>lt_len la (hb.can lb) h) (fun h=>lt_len lb (ha.can la) h) hl
  simp only [hl',decide_false,Bool.not_false,if_true,v144,OX_some,hs]
  rfl
end Go.Proofs.YtjniafcnjbbomaaGreatDoor.DE.V

namespace Go.Proofs.YtjniafcnjbbomaaGreatDoor.DE
open Go
def s80_r0 (cf:CallF) (a4:D) (a5:D) (a6:D) (a7:D) (a8:D) (a9:D) (a31:D) (a32:D) (a33:D) (S:Store) (Q:Ex→List D→Store→Prop):Prop:=
 OX (fzD a8 S) fun p1=>
 OX (isoCall cf 134 [p1.1]) fun x2=>
 OX (extD x2 0) fun x3=>
 OX (extD x2 1) fun x4=>
 Q .ret (mkf 54 [(4,x3),(5,x4),(6,.top),(7,.top),(8,.top),(9,.top),(31,.top),(32,.top),(33,.top)]) p1.2
theorem e80_r0 (cf:CallF) (a4:D) (a5:D) (a6:D) (a7:D) (a8:D) (a9:D) (a31:D) (a32:D) (a33:D) (S:Store) (Q:Ex→List D→Store→Prop):wp cf c80_r0 (mkf 54 [(4,a4),(5,a5),(6,a6),(7,a7),(8,a8),(9,a9),(31,a31),(32,a32),(33,a33)]) S Q=s80_r0 cf a4 a5 a6 a7 a8 a9 a31 a32 a33 S Q:=wpS_of (by kernel_rfl)
def s80_0 (cf:CallF) (a4:D) (a5:D) (a6:D) (a7:D) (a8:D) (a9:D) (a31:D) (a32:D) (a33:D) (S:Store) (Q:Ex→List D→Store→Prop):Prop:=
 OX (binD .lss .num a32 a31) fun x5=>
 WB x5
 (OX (fnD a6) fun q7=>OX (cf q7.1 ([a32]++q7.2) S) fun p8=>
 OX (fnD a7) fun q10=>OX (cf q10.1 ([a32]++q10.2) p8.2) fun p11=>
 OX (isoCall cf 142 [p8.1,p11.1,a9]) fun x12=>
 OX (extD x12 0) fun x13=>
 OX (extD x12 1) fun x14=>
 OX (iaD 1 a8 a32) fun x15=>
 OX (stD p11.2 1 false x15 x13) fun S17=>
 OX (binD .add .num a32 (.i .i64 1)) fun x18=>
 Q .normal (mkf 54 [(4,a4),(5,a5),(6,a6),(7,a7),(8,a8),(9,x14),(31,a31),(32,x18),(33,.top)]) S17)
 (Q (.exit 0) (mkf 54 [(4,a4),(5,a5),(6,a6),(7,a7),(8,a8),(9,a9),(31,a31),(32,a32),(33,x5)]) S)
theorem e80_0 (cf:CallF) (a4:D) (a5:D) (a6:D) (a7:D) (a8:D) (a9:D) (a31:D) (a32:D) (a33:D) (S:Store) (Q:Ex→List D→Store→Prop):wp cf c80_0 (fkill (mkf 54 [(4,a4),(5,a5),(6,a6),(7,a7),(8,a8),(9,a9),(31,a31),(32,a32),(33,a33)]) []) S Q=s80_0 cf a4 a5 a6 a7 a8 a9 a31 a32 a33 S Q:=wpS_of (by kernel_rfl)
def s80 (cf:CallF) (a0:D) (a1:D) (S:Store) (Post:D→Store→Prop):Prop:=
 OX (isoCall cf 105 [a0]) fun x19=>
 OX (unD .not x19) fun x20=>
 OX (gsel x20 false (some a1)) fun x21=>
 OX (gsel x20 false (isoCall cf 105 [x21])) fun x22=>
 OX (gsel x20 false (unD .not x22)) fun x23=>
 OX (pickD x20 (.b true) x23) fun x24=>
 WB x24
 (Post (.tup [(.sl 1 true [] .ro),(.i .i64 1)]) S)
 (OX (cf 141 [a0] S) fun p26=>
 OX (cf 141 [a1] p26.2) fun p28=>
 OX (lenD false a0) fun x29=>
 OX (lenD false a1) fun x30=>
 OX (mxD x29 x30) fun x31=>
 OX (binD .add .num x31 (.i .i64 1)) fun x32=>
 OX (mkslV 1 true [.i .u32 0] p28.2 x32) fun p34=>
 OX (lenD false p34.1) fun x35=>
 W cf (.loop [] c80_0) (mkf 54 [(4,.top),(5,.top),(6,p26.1),(7,p28.1),(8,p34.1),(9,(.i .u32 0)),(31,x35),(32,(.i .i64 0)),(33,.top)]) p34.2 (Qblk 0 (QS cf c80_r0 (FinK [.t 4,.t 5] Post))))
theorem e80 (cf:CallF) (a0:D) (a1:D) (S:Store) (Post:D→Store→Prop):wp cf c80 (frame0 d80 [a0,a1]) S (FinK d80.res Post)=s80 cf a0 a1 S Post:=wpS_of (by kernel_rfl)
theorem i80 (a0:D) (a1:D) (r:D) (ha:noRefL (stripL [a0,a1])=true) (hr:noRef r=true) (h:s80 (call dp) (strip a0) (strip a1) [] fun d _=>stripT d=r):isoCall (call dp) 80 [a0,a1]=some r:=iso_s (f:=d80) rfl ⟨rfl,by decide⟩ ha hr (by rw [←e80] at h;exact h)
def s161_r0 (cf:CallF) (a4:D) (a5:D) (a6:D) (a7:D) (a8:D) (a9:D) (a33:D) (a34:D) (a35:D) (S:Store) (Q:Ex→List D→Store→Prop):Prop:=
 OX (fzD a8 S) fun p1=>
 OX (isoCall cf 146 [p1.1]) fun x2=>
 Q .ret (mkf 54 [(4,x2),(5,(.b true)),(6,.top),(7,.top),(8,.top),(9,.top),(33,.top),(34,.top),(35,.top)]) p1.2
theorem e161_r0 (cf:CallF) (a4:D) (a5:D) (a6:D) (a7:D) (a8:D) (a9:D) (a33:D) (a34:D) (a35:D) (S:Store) (Q:Ex→List D→Store→Prop):wp cf c161_r0 (mkf 54 [(4,a4),(5,a5),(6,a6),(7,a7),(8,a8),(9,a9),(33,a33),(34,a34),(35,a35)]) S Q=s161_r0 cf a4 a5 a6 a7 a8 a9 a33 a34 a35 S Q:=wpS_of (by kernel_rfl)
def s161_0 (cf:CallF) (a4:D) (a5:D) (a6:D) (a7:D) (a8:D) (a9:D) (a33:D) (a34:D) (a35:D) (S:Store) (Q:Ex→List D→Store→Prop):Prop:=
 OX (binD .lss .num a34 a33) fun x3=>
 WB x3
 (OX (fnD a6) fun q5=>OX (cf q5.1 ([a34]++q5.2) S) fun p6=>
 OX (fnD a7) fun q8=>OX (cf q8.1 ([a34]++q8.2) p6.2) fun p9=>
 OX (isoCall cf 243 [p6.1,p9.1,a9]) fun x10=>
 OX (extD x10 0) fun x11=>
 OX (extD x10 1) fun x12=>
 OX (iaD 1 a8 a34) fun x13=>
 OX (stD p9.2 1 false x13 x11) fun S15=>
 OX (binD .add .num a34 (.i .i64 1)) fun x16=>
 Q .normal (mkf 54 [(4,a4),(5,a5),(6,a6),(7,a7),(8,a8),(9,x12),(33,a33),(34,x16),(35,.top)]) S15)
 (Q (.exit 0) (mkf 54 [(4,a4),(5,a5),(6,a6),(7,a7),(8,a8),(9,a9),(33,a33),(34,a34),(35,x3)]) S)
theorem e161_0 (cf:CallF) (a4:D) (a5:D) (a6:D) (a7:D) (a8:D) (a9:D) (a33:D) (a34:D) (a35:D) (S:Store) (Q:Ex→List D→Store→Prop):wp cf c161_0 (fkill (mkf 54 [(4,a4),(5,a5),(6,a6),(7,a7),(8,a8),(9,a9),(33,a33),(34,a34),(35,a35)]) []) S Q=s161_0 cf a4 a5 a6 a7 a8 a9 a33 a34 a35 S Q:=wpS_of (by kernel_rfl)
def s161 (cf:CallF) (a0:D) (a1:D) (S:Store) (Post:D→Store→Prop):Prop:=
 OX (isoCall cf 105 [a0]) fun x17=>
 OX (unD .not x17) fun x18=>
 OX (gsel x18 false (some a1)) fun x19=>
 OX (gsel x18 false (isoCall cf 105 [x19])) fun x20=>
 OX (gsel x18 false (unD .not x20)) fun x21=>
 OX (pickD x18 (.b true) x21) fun x22=>
 OX (gsel x22 false (some a0)) fun x23=>
 OX (gsel x22 false (some a1)) fun x24=>
 OX (gsel x22 false (isoCall cf 82 [x23,x24])) fun x25=>
 OX (gsel x22 false (binD .lss .num x25 (.i .i64 0))) fun x26=>
 OX (pickD x22 (.b true) x26) fun x27=>
 WB x27
 (Post (.tup [(.sl 1 true [] .ro),(.b false)]) S)
 (OX (cf 141 [a0] S) fun p29=>
 OX (cf 141 [a1] p29.2) fun p31=>
 OX (lenD false a0) fun x32=>
 OX (mkslV 1 true [.i .u32 0] p31.2 x32) fun p34=>
 OX (lenD false p34.1) fun x35=>
 W cf (.loop [] c161_0) (mkf 54 [(4,.top),(5,.top),(6,p29.1),(7,p31.1),(8,p34.1),(9,(.i .u32 0)),(33,x35),(34,(.i .i64 0)),(35,.top)]) p34.2 (Qblk 0 (QS cf c161_r0 (FinK [.t 4,.t 5] Post))))
theorem e161 (cf:CallF) (a0:D) (a1:D) (S:Store) (Post:D→Store→Prop):wp cf c161 (frame0 d161 [a0,a1]) S (FinK d161.res Post)=s161 cf a0 a1 S Post:=wpS_of (by kernel_rfl)
theorem i161 (a0:D) (a1:D) (r:D) (ha:noRefL (stripL [a0,a1])=true) (hr:noRef r=true) (h:s161 (call dp) (strip a0) (strip a1) [] fun d _=>stripT d=r):isoCall (call dp) 161 [a0,a1]=some r:=iso_s (f:=d161) rfl ⟨rfl,by decide⟩ ha hr (by rw [←e161] at h;exact h)
def s70_r0 (cf:CallF) (a0:D) (a1:D) (a4:D) (a5:D) (a6:D) (a7:D) (a8:D) (a26:D) (a27:D) (a28:D) (a31:D) (a32:D) (a33:D) (S:Store) (Q:Ex→List D→Store→Prop):Prop:=
 OX (lenD false a1) fun x1=>
 OX (binD .add .num a7 x1) fun x2=>
 OX (convD .u32 a8) fun x3=>
 OX (iaD 1 a6 x2) fun x4=>
 OX (stD S 1 false x4 x3) fun S6=>
 Q .normal (mkf 79 [(0,a0),(1,a1),(4,a4),(5,a5),(6,a6),(7,.top),(8,.top),(26,a26),(27,a27),(28,a28),(31,.top),(32,.top),(33,.top)]) S6
theorem e70_r0 (cf:CallF) (a0:D) (a1:D) (a4:D) (a5:D) (a6:D) (a7:D) (a8:D) (a26:D) (a27:D) (a28:D) (a31:D) (a32:D) (a33:D) (S:Store) (Q:Ex→List D→Store→Prop):wp cf c70_r0 (mkf 79 [(0,a0),(1,a1),(4,a4),(5,a5),(6,a6),(7,a7),(8,a8),(26,a26),(27,a27),(28,a28),(31,a31),(32,a32),(33,a33)]) S Q=s70_r0 cf a0 a1 a4 a5 a6 a7 a8 a26 a27 a28 a31 a32 a33 S Q:=wpS_of (by kernel_rfl)
def s70_r1 (cf:CallF) (a0:D) (a1:D) (a4:D) (a5:D) (a6:D) (a7:D) (a8:D) (a26:D) (a27:D) (a28:D) (a31:D) (a32:D) (a33:D) (S:Store) (Q:Ex→List D→Store→Prop):Prop:=
 OX (binD .add .num a27 (.i .i64 1)) fun x7=>
 Q .normal (mkf 79 [(0,a0),(1,a1),(4,a4),(5,a5),(6,a6),(7,a7),(8,a8),(26,a26),(27,x7),(28,a28),(31,a31),(32,a32),(33,a33)]) S
theorem e70_r1 (cf:CallF) (a0:D) (a1:D) (a4:D) (a5:D) (a6:D) (a7:D) (a8:D) (a26:D) (a27:D) (a28:D) (a31:D) (a32:D) (a33:D) (S:Store) (Q:Ex→List D→Store→Prop):wp cf c70_r1 (mkf 79 [(0,a0),(1,a1),(4,a4),(5,a5),(6,a6),(7,a7),(8,a8),(26,a26),(27,a27),(28,a28),(31,a31),(32,a32),(33,a33)]) S Q=s70_r1 cf a0 a1 a4 a5 a6 a7 a8 a26 a27 a28 a31 a32 a33 S Q:=wpS_of (by kernel_rfl)
def s70_0 (cf:CallF) (a0:D) (a1:D) (a4:D) (a5:D) (a6:D) (a7:D) (a8:D) (a26:D) (a27:D) (a28:D) (a31:D) (a32:D) (a33:D) (S:Store) (Q:Ex→List D→Store→Prop):Prop:=
 OX (binD .lss .num a32 a31) fun x8=>
 WB x8
 (OX (iaD 1 a0 a7) fun x9=>
 OX (ldD S 1 false x9) fun x10=>
 OX (convD .u64 x10) fun x11=>
 OX (iaD 1 a1 a32) fun x12=>
 OX (ldD S 1 false x12) fun x13=>
 OX (convD .u64 x13) fun x14=>
 OX (binD .mul .num x11 x14) fun x15=>
 OX (binD .add .num a7 a32) fun x16=>
 OX (iaD 1 a6 x16) fun x17=>
 OX (ldD S 1 false x17) fun x18=>
 OX (convD .u64 x18) fun x19=>
 OX (binD .add .num x15 x19) fun x20=>
 OX (binD .add .num x20 a8) fun x21=>
 OX (binD .add .num a7 a32) fun x22=>
 OX (convD .u32 x21) fun x23=>
 OX (binD .shr .num x21 (.i .u64 32)) fun x24=>
 OX (iaD 1 a6 x22) fun x25=>
 OX (stD S 1 false x25 x23) fun S27=>
 OX (binD .add .num a32 (.i .i64 1)) fun x28=>
 Q .normal (mkf 79 [(0,a0),(1,a1),(4,a4),(5,a5),(6,a6),(7,a7),(8,x24),(26,a26),(27,a27),(28,a28),(31,a31),(32,x28),(33,.top)]) S27)
 (Q (.exit 2) (mkf 79 [(0,a0),(1,a1),(4,a4),(5,a5),(6,a6),(7,a7),(8,a8),(26,a26),(27,a27),(28,a28),(31,a31),(32,a32),(33,x8)]) S)
theorem e70_0 (cf:CallF) (a0:D) (a1:D) (a4:D) (a5:D) (a6:D) (a7:D) (a8:D) (a26:D) (a27:D) (a28:D) (a31:D) (a32:D) (a33:D) (S:Store) (Q:Ex→List D→Store→Prop):wp cf c70_0 (fkill (mkf 79 [(0,a0),(1,a1),(4,a4),(5,a5),(6,a6),(7,a7),(8,a8),(26,a26),(27,a27),(28,a28),(31,a31),(32,a32),(33,a33)]) []) S Q=s70_0 cf a0 a1 a4 a5 a6 a7 a8 a26 a27 a28 a31 a32 a33 S Q:=wpS_of (by kernel_rfl)
def s70_r2 (cf:CallF) (a0:D) (a1:D) (a4:D) (a5:D) (a6:D) (a7:D) (a8:D) (a26:D) (a27:D) (a28:D) (a31:D) (a32:D) (a33:D) (S:Store) (Q:Ex→List D→Store→Prop):Prop:=
 OX (fzD a6 S) fun p29=>
 OX (isoCall cf 134 [p29.1]) fun x30=>
 OX (extD x30 0) fun x31=>
 OX (extD x30 1) fun x32=>
 Q .ret (mkf 79 [(0,.top),(1,.top),(4,x31),(5,x32),(6,.top),(7,a7),(8,a8),(26,.top),(27,.top),(28,.top),(31,a31),(32,a32),(33,a33)]) p29.2
theorem e70_r2 (cf:CallF) (a0:D) (a1:D) (a4:D) (a5:D) (a6:D) (a7:D) (a8:D) (a26:D) (a27:D) (a28:D) (a31:D) (a32:D) (a33:D) (S:Store) (Q:Ex→List D→Store→Prop):wp cf c70_r2 (mkf 79 [(0,a0),(1,a1),(4,a4),(5,a5),(6,a6),(7,a7),(8,a8),(26,a26),(27,a27),(28,a28),(31,a31),(32,a32),(33,a33)]) S Q=s70_r2 cf a0 a1 a4 a5 a6 a7 a8 a26 a27 a28 a31 a32 a33 S Q:=wpS_of (by kernel_rfl)
def s70_1 (cf:CallF) (a0:D) (a1:D) (a4:D) (a5:D) (a6:D) (a7:D) (a8:D) (a26:D) (a27:D) (a28:D) (a31:D) (a32:D) (a33:D) (S:Store) (Q:Ex→List D→Store→Prop):Prop:=
 OX (binD .lss .num a27 a26) fun x33=>
 WB x33
 (OX (lenD false a1) fun x34=>
 W cf (.loop [] c70_0) (mkf 79 [(0,a0),(1,a1),(4,a4),(5,a5),(6,a6),(7,a27),(8,(.i .u64 0)),(26,a26),(27,a27),(28,.top),(31,x34),(32,(.i .i64 0)),(33,a33)]) S (Qblk 2 (QS cf c70_r0 (Qblk 1 (QS cf c70_r1 Q)))))
 (Q (.exit 0) (mkf 79 [(0,a0),(1,a1),(4,a4),(5,a5),(6,a6),(7,a7),(8,a8),(26,a26),(27,a27),(28,x33),(31,a31),(32,a32),(33,a33)]) S)
theorem e70_1 (cf:CallF) (a0:D) (a1:D) (a4:D) (a5:D) (a6:D) (a7:D) (a8:D) (a26:D) (a27:D) (a28:D) (a31:D) (a32:D) (a33:D) (S:Store) (Q:Ex→List D→Store→Prop):wp cf c70_1 (fkill (mkf 79 [(0,a0),(1,a1),(4,a4),(5,a5),(6,a6),(7,a7),(8,a8),(26,a26),(27,a27),(28,a28),(31,a31),(32,a32),(33,a33)]) []) S Q=s70_1 cf a0 a1 a4 a5 a6 a7 a8 a26 a27 a28 a31 a32 a33 S Q:=wpS_of (by kernel_rfl)
def s70 (cf:CallF) (a0:D) (a1:D) (S:Store) (Post:D→Store→Prop):Prop:=
 OX (isoCall cf 105 [a0]) fun x35=>
 OX (unD .not x35) fun x36=>
 OX (gsel x36 false (some a1)) fun x37=>
 OX (gsel x36 false (isoCall cf 105 [x37])) fun x38=>
 OX (gsel x36 false (unD .not x38)) fun x39=>
 OX (pickD x36 (.b true) x39) fun x40=>
 WB x40
 (Post (.tup [(.sl 1 true [] .ro),(.i .i64 1)]) S)
 (OX (lenD false a0) fun x41=>
 OX (lenD false a1) fun x42=>
 OX (binD .add .num x41 x42) fun x43=>
 OX (mkslV 1 true [.i .u32 0] S x43) fun p45=>
 OX (lenD false a0) fun x46=>
 W cf (.loop [] c70_1) (mkf 79 [(0,a0),(1,a1),(4,.top),(5,.top),(6,p45.1),(7,.top),(8,.top),(26,x46),(27,(.i .i64 0)),(28,.top),(31,.top),(32,.top),(33,.top)]) p45.2 (Qblk 0 (QS cf c70_r2 (FinK [.t 4,.t 5] Post))))
theorem e70 (cf:CallF) (a0:D) (a1:D) (S:Store) (Post:D→Store→Prop):wp cf c70 (frame0 d70 [a0,a1]) S (FinK d70.res Post)=s70 cf a0 a1 S Post:=wpS_of (by kernel_rfl)
theorem i70 (a0:D) (a1:D) (r:D) (ha:noRefL (stripL [a0,a1])=true) (hr:noRef r=true) (h:s70 (call dp) (strip a0) (strip a1) [] fun d _=>stripT d=r):isoCall (call dp) 70 [a0,a1]=some r:=iso_s (f:=d70) rfl ⟨rfl,by decide⟩ ha hr (by rw [←e70] at h;exact h)
def s154_r0 (cf:CallF) (a0:D) (a1:D) (a4:D) (a5:D) (a6:D) (a7:D) (a8:D) (a16:D) (S:Store) (Q:Ex→List D→Store→Prop):Prop:=
 OX (fzD a6 S) fun p1=>
 OX (isoCall cf 146 [p1.1]) fun x2=>
 OX (convD .u32 a7) fun x3=>
 Q .ret (mkf 43 [(0,.top),(1,.top),(4,x2),(5,x3),(6,.top),(7,.top),(8,.top),(16,.top)]) p1.2
theorem e154_r0 (cf:CallF) (a0:D) (a1:D) (a4:D) (a5:D) (a6:D) (a7:D) (a8:D) (a16:D) (S:Store) (Q:Ex→List D→Store→Prop):wp cf c154_r0 (mkf 43 [(0,a0),(1,a1),(4,a4),(5,a5),(6,a6),(7,a7),(8,a8),(16,a16)]) S Q=s154_r0 cf a0 a1 a4 a5 a6 a7 a8 a16 S Q:=wpS_of (by kernel_rfl)
def s154_0 (cf:CallF) (a0:D) (a1:D) (a4:D) (a5:D) (a6:D) (a7:D) (a8:D) (a16:D) (S:Store) (Q:Ex→List D→Store→Prop):Prop:=
 OX (binD .geq .num a8 (.i .i64 0)) fun x4=>
 WB x4
 (OX (binD .shl .num a7 (.i .u64 32)) fun x5=>
 OX (iaD 1 a0 a8) fun x6=>
 OX (ldD S 1 false x6) fun x7=>
 OX (convD .u64 x7) fun x8=>
 OX (binD .or .num x5 x8) fun x9=>
 OX (convD .u64 a1) fun x10=>
 OX (binD .quo .num x9 x10) fun x11=>
 OX (convD .u32 x11) fun x12=>
 OX (convD .u64 a1) fun x13=>
 OX (binD .rem .num x9 x13) fun x14=>
 OX (iaD 1 a6 a8) fun x15=>
 OX (stD S 1 false x15 x12) fun S17=>
 OX (binD .sub .num a8 (.i .i64 1)) fun x18=>
 Q .normal (mkf 43 [(0,a0),(1,a1),(4,a4),(5,a5),(6,a6),(7,x14),(8,x18),(16,.top)]) S17)
 (Q (.exit 0) (mkf 43 [(0,a0),(1,a1),(4,a4),(5,a5),(6,a6),(7,a7),(8,a8),(16,x4)]) S)
theorem e154_0 (cf:CallF) (a0:D) (a1:D) (a4:D) (a5:D) (a6:D) (a7:D) (a8:D) (a16:D) (S:Store) (Q:Ex→List D→Store→Prop):wp cf c154_0 (fkill (mkf 43 [(0,a0),(1,a1),(4,a4),(5,a5),(6,a6),(7,a7),(8,a8),(16,a16)]) []) S Q=s154_0 cf a0 a1 a4 a5 a6 a7 a8 a16 S Q:=wpS_of (by kernel_rfl)
def s154 (cf:CallF) (a0:D) (a1:D) (S:Store) (Post:D→Store→Prop):Prop:=
 OX (lenD false a0) fun x19=>
 OX (mkslV 1 true [.i .u32 0] S x19) fun p21=>
 OX (lenD false a0) fun x22=>
 OX (binD .sub .num x22 (.i .i64 1)) fun x23=>
 W cf (.loop [] c154_0) (mkf 43 [(0,a0),(1,a1),(4,.top),(5,.top),(6,p21.1),(7,(.i .u64 0)),(8,x23),(16,.top)]) p21.2 (Qblk 0 (QS cf c154_r0 (FinK [.t 4,.t 5] Post)))
theorem e154 (cf:CallF) (a0:D) (a1:D) (S:Store) (Post:D→Store→Prop):wp cf c154 (frame0 d154 [a0,a1]) S (FinK d154.res Post)=s154 cf a0 a1 S Post:=wpS_of (by kernel_rfl)
theorem i154 (a0:D) (a1:D) (r:D) (ha:noRefL (stripL [a0,a1])=true) (hr:noRef r=true) (h:s154 (call dp) (strip a0) (strip a1) [] fun d _=>stripT d=r):isoCall (call dp) 154 [a0,a1]=some r:=iso_s (f:=d154) rfl ⟨rfl,by decide⟩ ha hr (by rw [←e154] at h;exact h)
def s213_r0 (cf:CallF) (a0:D) (a1:D) (a4:D) (a5:D) (a13:D) (a14:D) (a15:D) (S:Store) (Q:Ex→List D→Store→Prop):Prop:=
 OX (fzD a5 S) fun p1=>
 Q .ret (mkf 41 [(0,.top),(1,.top),(4,p1.1),(5,.top),(13,.top),(14,.top),(15,.top)]) p1.2
theorem e213_r0 (cf:CallF) (a0:D) (a1:D) (a4:D) (a5:D) (a13:D) (a14:D) (a15:D) (S:Store) (Q:Ex→List D→Store→Prop):wp cf c213_r0 (mkf 41 [(0,a0),(1,a1),(4,a4),(5,a5),(13,a13),(14,a14),(15,a15)]) S Q=s213_r0 cf a0 a1 a4 a5 a13 a14 a15 S Q:=wpS_of (by kernel_rfl)
def s213_0 (cf:CallF) (a0:D) (a1:D) (a4:D) (a5:D) (a13:D) (a14:D) (a15:D) (S:Store) (Q:Ex→List D→Store→Prop):Prop:=
 OX (binD .lss .num a14 a13) fun x2=>
 WB x2
 (OX (iaD 1 a0 a14) fun x3=>
 OX (ldD S 1 false x3) fun x4=>
 OX (convD .u64 x4) fun x5=>
 OX (binD .shl .num x5 a1) fun x6=>
 OX (iaD 1 a5 a14) fun x7=>
 OX (ldD S 1 false x7) fun x8=>
 OX (convD .u32 x6) fun x9=>
 OX (binD .or .num x8 x9) fun x10=>
 OX (iaD 1 a5 a14) fun x11=>
 OX (stD S 1 false x11 x10) fun S13=>
 OX (binD .add .num a14 (.i .i64 1)) fun x14=>
 OX (binD .shr .num x6 (.i .u64 32)) fun x15=>
 OX (convD .u32 x15) fun x16=>
 OX (iaD 1 a5 x14) fun x17=>
 OX (stD S13 1 false x17 x16) fun S19=>
 OX (binD .add .num a14 (.i .i64 1)) fun x20=>
 Q .normal (mkf 41 [(0,a0),(1,a1),(4,a4),(5,a5),(13,a13),(14,x20),(15,.top)]) S19)
 (Q (.exit 0) (mkf 41 [(0,a0),(1,a1),(4,a4),(5,a5),(13,a13),(14,a14),(15,x2)]) S)
theorem e213_0 (cf:CallF) (a0:D) (a1:D) (a4:D) (a5:D) (a13:D) (a14:D) (a15:D) (S:Store) (Q:Ex→List D→Store→Prop):wp cf c213_0 (fkill (mkf 41 [(0,a0),(1,a1),(4,a4),(5,a5),(13,a13),(14,a14),(15,a15)]) []) S Q=s213_0 cf a0 a1 a4 a5 a13 a14 a15 S Q:=wpS_of (by kernel_rfl)
def s213 (cf:CallF) (a0:D) (a1:D) (S:Store) (Post:D→Store→Prop):Prop:=
 OX (lenD false a0) fun x21=>
 OX (binD .add .num x21 (.i .i64 1)) fun x22=>
 OX (mkslV 1 true [.i .u32 0] S x22) fun p24=>
 OX (lenD false a0) fun x25=>
 W cf (.loop [] c213_0) (mkf 41 [(0,a0),(1,a1),(4,.top),(5,p24.1),(13,x25),(14,(.i .i64 0)),(15,.top)]) p24.2 (Qblk 0 (QS cf c213_r0 (FinK [.t 4] Post)))
theorem e213 (cf:CallF) (a0:D) (a1:D) (S:Store) (Post:D→Store→Prop):wp cf c213 (frame0 d213 [a0,a1]) S (FinK d213.res Post)=s213 cf a0 a1 S Post:=wpS_of (by kernel_rfl)
theorem j213 (a0:D) (a1:D) (Post:D→Prop) (ha:noRefL (stripL [a0,a1])=true) (hr:∀ r,Post r→noRef r=true) (h:s213 (call dp) (strip a0) (strip a1) [] fun d _=>Post (stripT d)):∃ r,isoCall (call dp) 213 [a0,a1]=some r∧Post r:=iso_x (f:=d213) rfl ⟨rfl,by decide⟩ ha hr (by rw [←e213] at h;exact h)
def s1213_r0 (cf:CallF) (a0:D) (a1:D) (a4:D) (a5:D) (a13:D) (a14:D) (a15:D) (S:Store) (Q:Ex→List D→Store→Prop):Prop:=
 Q .ret (mkf 41 [(0,.top),(1,.top),(4,a5),(5,.top),(13,.top),(14,.top),(15,.top)]) S
theorem e1213_r0 (cf:CallF) (a0:D) (a1:D) (a4:D) (a5:D) (a13:D) (a14:D) (a15:D) (S:Store) (Q:Ex→List D→Store→Prop):wp cf c1213_r0 (mkf 41 [(0,a0),(1,a1),(4,a4),(5,a5),(13,a13),(14,a14),(15,a15)]) S Q=s1213_r0 cf a0 a1 a4 a5 a13 a14 a15 S Q:=wpS_of (by kernel_rfl)
def s1213 (cf:CallF) (a0:D) (a1:D) (S:Store) (Post:D→Store→Prop):Prop:=
 OX (lenD false a0) fun x20=>
 OX (binD .add .num x20 (.i .i64 1)) fun x21=>
 OX (mkslV 1 true [.i .u32 0] S x21) fun p23=>
 OX (lenD false a0) fun x24=>
 W cf (.loop [] c1213_0) (mkf 41 [(0,a0),(1,a1),(4,.top),(5,p23.1),(13,x24),(14,(.i .i64 0)),(15,.top)]) p23.2 (Qblk 0 (QS cf c1213_r0 (FinK [.t 4] Post)))
theorem e1213 (cf:CallF) (a0:D) (a1:D) (S:Store) (Post:D→Store→Prop):wp cf c1213 (frame0 d1213 [a0,a1]) S (FinK d1213.res Post)=s1213 cf a0 a1 S Post:=wpS_of (by kernel_rfl)
theorem f1213 (a0:D) (a1:D) (S:Store) (Post:D→Store→Prop) (h:s1213 (call dp) a0 a1 S Post):∃ r S',call dp 1213 [a0,a1] S=some (r,S')∧Post r S':=call_s (f:=d1213) rfl ⟨rfl,by decide⟩ (by rw [←e1213] at h;exact h)
def s216_r0 (cf:CallF) (a0:D) (a1:D) (a4:D) (a5:D) (a12:D) (a13:D) (a14:D) (S:Store) (Q:Ex→List D→Store→Prop):Prop:=
 OX (fzD a5 S) fun p1=>
 Q .ret (mkf 44 [(0,.top),(1,.top),(4,p1.1),(5,.top),(12,.top),(13,.top),(14,.top)]) p1.2
theorem e216_r0 (cf:CallF) (a0:D) (a1:D) (a4:D) (a5:D) (a12:D) (a13:D) (a14:D) (S:Store) (Q:Ex→List D→Store→Prop):wp cf c216_r0 (mkf 44 [(0,a0),(1,a1),(4,a4),(5,a5),(12,a12),(13,a13),(14,a14)]) S Q=s216_r0 cf a0 a1 a4 a5 a12 a13 a14 S Q:=wpS_of (by kernel_rfl)
def s216_0 (cf:CallF) (a0:D) (a1:D) (a4:D) (a5:D) (a12:D) (a13:D) (a14:D) (S:Store) (Q:Ex→List D→Store→Prop):Prop:=
 OX (binD .lss .num a13 a12) fun x2=>
 WB x2
 (OX (iaD 1 a0 a13) fun x3=>
 OX (ldD S 1 false x3) fun x4=>
 OX (convD .u64 x4) fun x5=>
 OX (binD .add .num a13 (.i .i64 1)) fun x6=>
 OX (lenD false a0) fun x7=>
 OX (binD .lss .num x6 x7) fun x8=>
 jn (fun (y10:D) (y11:D) (y12:D) (y13:D) (y14:D) (y15:D) (y16:D) (y17:D) (y18:D) (S19:Store)=>
 OX (binD .shr .num y15 y11) fun x20=>
 OX (convD .u32 x20) fun x21=>
 OX (iaD 1 y13 y14) fun x22=>
 OX (stD S19 1 false x22 x21) fun S24=>
 OX (binD .add .num y17 (.i .i64 1)) fun x25=>
 Q .normal (mkf 44 [(0,y10),(1,y11),(4,y12),(5,y13),(12,y16),(13,x25),(14,.top)]) S24) fun k9=>
 WB x8
 (OX (binD .add .num a13 (.i .i64 1)) fun x26=>
 OX (iaD 1 a0 x26) fun x27=>
 OX (ldD S 1 false x27) fun x28=>
 OX (convD .u64 x28) fun x29=>
 OX (binD .shl .num x29 (.i .u64 32)) fun x30=>
 OX (binD .or .num x5 x30) fun x31=>
 k9 a0 a1 a4 a5 a13 x31 a12 a13 D.top S)
 (k9 a0 a1 a4 a5 a13 x5 a12 a13 x8 S))
 (Q (.exit 0) (mkf 44 [(0,a0),(1,a1),(4,a4),(5,a5),(12,a12),(13,a13),(14,x2)]) S)
theorem e216_0 (cf:CallF) (a0:D) (a1:D) (a4:D) (a5:D) (a12:D) (a13:D) (a14:D) (S:Store) (Q:Ex→List D→Store→Prop):wp cf c216_0 (fkill (mkf 44 [(0,a0),(1,a1),(4,a4),(5,a5),(12,a12),(13,a13),(14,a14)]) []) S Q=s216_0 cf a0 a1 a4 a5 a12 a13 a14 S Q:=wpS_of (by kernel_rfl)
def s216 (cf:CallF) (a0:D) (a1:D) (S:Store) (Post:D→Store→Prop):Prop:=
 OX (lenD false a0) fun x32=>
 OX (mkslV 1 true [.i .u32 0] S x32) fun p34=>
 OX (lenD false a0) fun x35=>
 W cf (.loop [] c216_0) (mkf 44 [(0,a0),(1,a1),(4,.top),(5,p34.1),(12,x35),(13,(.i .i64 0)),(14,.top)]) p34.2 (Qblk 0 (QS cf c216_r0 (FinK [.t 4] Post)))
theorem e216 (cf:CallF) (a0:D) (a1:D) (S:Store) (Post:D→Store→Prop):wp cf c216 (frame0 d216 [a0,a1]) S (FinK d216.res Post)=s216 cf a0 a1 S Post:=wpS_of (by kernel_rfl)
theorem j216 (a0:D) (a1:D) (Post:D→Prop) (ha:noRefL (stripL [a0,a1])=true) (hr:∀ r,Post r→noRef r=true) (h:s216 (call dp) (strip a0) (strip a1) [] fun d _=>Post (stripT d)):∃ r,isoCall (call dp) 216 [a0,a1]=some r∧Post r:=iso_x (f:=d216) rfl ⟨rfl,by decide⟩ ha hr (by rw [←e216] at h;exact h)
def s214_r0 (cf:CallF) (a0:D) (a1:D) (a2:D) (a3:D) (a8:D) (a9:D) (a10:D) (a13:D) (a14:D) (a15:D) (S:Store) (Q:Ex→List D→Store→Prop):Prop:=
 OX (lenD false a1) fun x1=>
 OX (binD .add .num a2 x1) fun x2=>
 OX (lenD false a1) fun x3=>
 OX (binD .add .num a2 x3) fun x4=>
 OX (iaD 1 a0 x4) fun x5=>
 OX (ldD S 1 false x5) fun x6=>
 OX (convD .u32 a9) fun x7=>
 OX (isoCall cf 243 [x6,x7,a10]) fun x8=>
 OX (extD x8 0) fun x9=>
 OX (extD x8 1) fun x10=>
 OX (iaD 1 a0 x2) fun x11=>
 OX (stD S 1 false x11 x9) fun S13=>
 OX (binD .eql .num x10 (.i .u32 1)) fun x14=>
 Q .ret (mkf 69 [(0,.top),(1,.top),(2,.top),(3,.top),(8,x14),(9,.top),(10,.top),(13,.top),(14,.top),(15,.top)]) S13
theorem e214_r0 (cf:CallF) (a0:D) (a1:D) (a2:D) (a3:D) (a8:D) (a9:D) (a10:D) (a13:D) (a14:D) (a15:D) (S:Store) (Q:Ex→List D→Store→Prop):wp cf c214_r0 (mkf 69 [(0,a0),(1,a1),(2,a2),(3,a3),(8,a8),(9,a9),(10,a10),(13,a13),(14,a14),(15,a15)]) S Q=s214_r0 cf a0 a1 a2 a3 a8 a9 a10 a13 a14 a15 S Q:=wpS_of (by kernel_rfl)
def s214_0 (cf:CallF) (a0:D) (a1:D) (a2:D) (a3:D) (a8:D) (a9:D) (a10:D) (a13:D) (a14:D) (a15:D) (S:Store) (Q:Ex→List D→Store→Prop):Prop:=
 OX (binD .lss .num a14 a13) fun x15=>
 WB x15
 (OX (iaD 1 a1 a14) fun x16=>
 OX (ldD S 1 false x16) fun x17=>
 OX (convD .u64 x17) fun x18=>
 OX (binD .mul .num a3 x18) fun x19=>
 OX (binD .add .num a9 x19) fun x20=>
 OX (binD .add .num a2 a14) fun x21=>
 OX (binD .add .num a2 a14) fun x22=>
 OX (iaD 1 a0 x22) fun x23=>
 OX (ldD S 1 false x23) fun x24=>
 OX (convD .u32 x20) fun x25=>
 OX (isoCall cf 243 [x24,x25,a10]) fun x26=>
 OX (extD x26 0) fun x27=>
 OX (extD x26 1) fun x28=>
 OX (iaD 1 a0 x21) fun x29=>
 OX (stD S 1 false x29 x27) fun S31=>
 OX (binD .shr .num x20 (.i .u64 32)) fun x32=>
 OX (binD .add .num a14 (.i .i64 1)) fun x33=>
 Q .normal (mkf 69 [(0,a0),(1,a1),(2,a2),(3,a3),(8,a8),(9,x32),(10,x28),(13,a13),(14,x33),(15,.top)]) S31)
 (Q (.exit 0) (mkf 69 [(0,a0),(1,a1),(2,a2),(3,a3),(8,a8),(9,a9),(10,a10),(13,a13),(14,a14),(15,x15)]) S)
theorem e214_0 (cf:CallF) (a0:D) (a1:D) (a2:D) (a3:D) (a8:D) (a9:D) (a10:D) (a13:D) (a14:D) (a15:D) (S:Store) (Q:Ex→List D→Store→Prop):wp cf c214_0 (fkill (mkf 69 [(0,a0),(1,a1),(2,a2),(3,a3),(8,a8),(9,a9),(10,a10),(13,a13),(14,a14),(15,a15)]) []) S Q=s214_0 cf a0 a1 a2 a3 a8 a9 a10 a13 a14 a15 S Q:=wpS_of (by kernel_rfl)
def s214 (cf:CallF) (a0:D) (a1:D) (a2:D) (a3:D) (S:Store) (Post:D→Store→Prop):Prop:=
 OX (lenD false a1) fun x34=>
 W cf (.loop [] c214_0) (mkf 69 [(0,a0),(1,a1),(2,a2),(3,a3),(8,.top),(9,(.i .u64 0)),(10,(.i .u32 0)),(13,x34),(14,(.i .i64 0)),(15,.top)]) S (Qblk 0 (QS cf c214_r0 (FinK [.t 8] Post)))
theorem e214 (cf:CallF) (a0:D) (a1:D) (a2:D) (a3:D) (S:Store) (Post:D→Store→Prop):wp cf c214 (frame0 d214 [a0,a1,a2,a3]) S (FinK d214.res Post)=s214 cf a0 a1 a2 a3 S Post:=wpS_of (by kernel_rfl)
theorem f214 (a0:D) (a1:D) (a2:D) (a3:D) (S:Store) (Post:D→Store→Prop) (h:s214 (call dp) a0 a1 a2 a3 S Post):∃ r S',call dp 214 [a0,a1,a2,a3] S=some (r,S')∧Post r S':=call_s (f:=d214) rfl ⟨rfl,by decide⟩ (by rw [←e214] at h;exact h)
def s215_r0 (cf:CallF) (a0:D) (a1:D) (a2:D) (a6:D) (a9:D) (a10:D) (a11:D) (S:Store) (Q:Ex→List D→Store→Prop):Prop:=
 OX (lenD false a1) fun x1=>
 OX (binD .add .num a2 x1) fun x2=>
 OX (iaD 1 a0 x2) fun x3=>
 OX (ldD S 1 false x3) fun x4=>
 OX (binD .add .num x4 a6) fun x5=>
 OX (iaD 1 a0 x2) fun x6=>
 OX (stD S 1 false x6 x5) fun S8=>
 Q .normal (mkf 44 [(0,.top),(1,.top),(2,.top),(6,.top),(9,.top),(10,.top),(11,.top)]) S8
theorem e215_r0 (cf:CallF) (a0:D) (a1:D) (a2:D) (a6:D) (a9:D) (a10:D) (a11:D) (S:Store) (Q:Ex→List D→Store→Prop):wp cf c215_r0 (mkf 44 [(0,a0),(1,a1),(2,a2),(6,a6),(9,a9),(10,a10),(11,a11)]) S Q=s215_r0 cf a0 a1 a2 a6 a9 a10 a11 S Q:=wpS_of (by kernel_rfl)
def s215_0 (cf:CallF) (a0:D) (a1:D) (a2:D) (a6:D) (a9:D) (a10:D) (a11:D) (S:Store) (Q:Ex→List D→Store→Prop):Prop:=
 OX (binD .lss .num a10 a9) fun x9=>
 WB x9
 (OX (binD .add .num a2 a10) fun x10=>
 OX (binD .add .num a2 a10) fun x11=>
 OX (iaD 1 a0 x11) fun x12=>
 OX (ldD S 1 false x12) fun x13=>
 OX (iaD 1 a1 a10) fun x14=>
 OX (ldD S 1 false x14) fun x15=>
 OX (isoCall cf 142 [x13,x15,a6]) fun x16=>
 OX (extD x16 0) fun x17=>
 OX (extD x16 1) fun x18=>
 OX (iaD 1 a0 x10) fun x19=>
 OX (stD S 1 false x19 x17) fun S21=>
 OX (binD .add .num a10 (.i .i64 1)) fun x22=>
 Q .normal (mkf 44 [(0,a0),(1,a1),(2,a2),(6,x18),(9,a9),(10,x22),(11,.top)]) S21)
 (Q (.exit 0) (mkf 44 [(0,a0),(1,a1),(2,a2),(6,a6),(9,a9),(10,a10),(11,x9)]) S)
theorem e215_0 (cf:CallF) (a0:D) (a1:D) (a2:D) (a6:D) (a9:D) (a10:D) (a11:D) (S:Store) (Q:Ex→List D→Store→Prop):wp cf c215_0 (fkill (mkf 44 [(0,a0),(1,a1),(2,a2),(6,a6),(9,a9),(10,a10),(11,a11)]) []) S Q=s215_0 cf a0 a1 a2 a6 a9 a10 a11 S Q:=wpS_of (by kernel_rfl)
def s215 (cf:CallF) (a0:D) (a1:D) (a2:D) (S:Store) (Post:D→Store→Prop):Prop:=
 OX (lenD false a1) fun x23=>
 W cf (.loop [] c215_0) (mkf 44 [(0,a0),(1,a1),(2,a2),(6,(.i .u32 0)),(9,x23),(10,(.i .i64 0)),(11,.top)]) S (Qblk 0 (QS cf c215_r0 (FinK [] Post)))
theorem e215 (cf:CallF) (a0:D) (a1:D) (a2:D) (S:Store) (Post:D→Store→Prop):wp cf c215 (frame0 d215 [a0,a1,a2]) S (FinK d215.res Post)=s215 cf a0 a1 a2 S Post:=wpS_of (by kernel_rfl)
theorem f215 (a0:D) (a1:D) (a2:D) (S:Store) (Post:D→Store→Prop) (h:s215 (call dp) a0 a1 a2 S Post):∃ r S',call dp 215 [a0,a1,a2] S=some (r,S')∧Post r S':=call_s (f:=d215) rfl ⟨rfl,by decide⟩ (by rw [←e215] at h;exact h)
def s135_r0 (cf:CallF) (a4:D) (a5:D) (a6:D) (a9:D) (a10:D) (a11:D) (a12:D) (a13:D) (a14:D) (a15:D) (a17:D) (a18:D) (a95:D) (a142:D) (a149:D) (S:Store) (Q:Ex→List D→Store→Prop):Prop:=
 OX (cf 214 [a11,a10,a15,a17] S) fun p2=>
 jn (fun (y4:D) (y5:D) (y6:D) (y7:D) (y8:D) (y9:D) (y10:D) (y11:D) (y12:D) (y13:D) (y14:D) (y15:D) (y16:D) (S17:Store)=>
 OX (convD .u32 y14) fun x18=>
 OX (iaD 1 y10 y13) fun x19=>
 OX (stD S17 1 false x19 x18) fun S21=>
 Q .normal (mkf 175 [(4,y4),(5,y5),(6,y6),(9,y7),(10,y8),(11,y9),(12,y10),(13,y11),(14,y12),(15,y13),(17,.top),(18,.top),(95,y15),(142,.top),(149,.top)]) S21) fun k3=>
 WB p2.1
 (OX (binD .sub .num a17 (.i .u64 1)) fun x22=>
 OX (cf 215 [a11,a10,a15] p2.2) fun p24=>
 k3 a4 a5 a6 a9 a10 a11 a12 a13 a14 a15 x22 a95 D.top p24.2)
 (k3 a4 a5 a6 a9 a10 a11 a12 a13 a14 a15 a17 a95 p2.1 p2.2)
theorem e135_r0 (cf:CallF) (a4:D) (a5:D) (a6:D) (a9:D) (a10:D) (a11:D) (a12:D) (a13:D) (a14:D) (a15:D) (a17:D) (a18:D) (a95:D) (a142:D) (a149:D) (S:Store) (Q:Ex→List D→Store→Prop):wp cf c135_r0 (mkf 175 [(4,a4),(5,a5),(6,a6),(9,a9),(10,a10),(11,a11),(12,a12),(13,a13),(14,a14),(15,a15),(17,a17),(18,a18),(95,a95),(142,a142),(149,a149)]) S Q=s135_r0 cf a4 a5 a6 a9 a10 a11 a12 a13 a14 a15 a17 a18 a95 a142 a149 S Q:=wpS_of (by kernel_rfl)
def s135_r1 (cf:CallF) (a4:D) (a5:D) (a6:D) (a9:D) (a10:D) (a11:D) (a12:D) (a13:D) (a14:D) (a15:D) (a17:D) (a18:D) (a95:D) (a142:D) (a149:D) (S:Store) (Q:Ex→List D→Store→Prop):Prop:=
 OX (binD .sub .num a15 (.i .i64 1)) fun x25=>
 Q .normal (mkf 175 [(4,a4),(5,a5),(6,a6),(9,a9),(10,a10),(11,a11),(12,a12),(13,a13),(14,a14),(15,x25),(17,a17),(18,a18),(95,a95),(142,a142),(149,a149)]) S
theorem e135_r1 (cf:CallF) (a4:D) (a5:D) (a6:D) (a9:D) (a10:D) (a11:D) (a12:D) (a13:D) (a14:D) (a15:D) (a17:D) (a18:D) (a95:D) (a142:D) (a149:D) (S:Store) (Q:Ex→List D→Store→Prop):wp cf c135_r1 (mkf 175 [(4,a4),(5,a5),(6,a6),(9,a9),(10,a10),(11,a11),(12,a12),(13,a13),(14,a14),(15,a15),(17,a17),(18,a18),(95,a95),(142,a142),(149,a149)]) S Q=s135_r1 cf a4 a5 a6 a9 a10 a11 a12 a13 a14 a15 a17 a18 a95 a142 a149 S Q:=wpS_of (by kernel_rfl)
def s135_0 (cf:CallF) (a4:D) (a5:D) (a6:D) (a9:D) (a10:D) (a11:D) (a12:D) (a13:D) (a14:D) (a15:D) (a17:D) (a18:D) (a95:D) (a142:D) (a149:D) (S:Store) (Q:Ex→List D→Store→Prop):Prop:=
 OX (binD .geq .num a17 (.i .u64 4294967296)) fun x26=>
 OX (gsel x26 false (some a17)) fun x27=>
 OX (gsel x26 false (some a14)) fun x28=>
 OX (gsel x26 false (binD .mul .num x27 x28)) fun x29=>
 OX (gsel x26 false (some a18)) fun x30=>
 OX (gsel x26 false (binD .shl .num x30 (.i .u64 32))) fun x31=>
 OX (gsel x26 false (some a11)) fun x32=>
 OX (gsel x26 false (some a15)) fun x33=>
 OX (gsel x26 false (some a10)) fun x34=>
 OX (gsel x26 false (lenD false x34)) fun x35=>
 OX (gsel x26 false (binD .add .num x33 x35)) fun x36=>
 OX (gsel x26 false (binD .sub .num x36 (.i .i64 2))) fun x37=>
 OX (gsel x26 false (iaD 1 x32 x37)) fun x38=>
 OX (gsel x26 false (ldD S 1 false x38)) fun x39=>
 OX (gsel x26 false (convD .u64 x39)) fun x40=>
 OX (gsel x26 false (binD .or .num x31 x40)) fun x41=>
 OX (gsel x26 false (binD .gtr .num x29 x41)) fun x42=>
 OX (pickD x26 (.b true) x42) fun x43=>
 WB x43
 (OX (binD .sub .num a17 (.i .u64 1)) fun x44=>
 OX (binD .add .num a18 a13) fun x45=>
 OX (binD .geq .num x45 (.i .u64 4294967296)) fun x46=>
 WB x46
 (Q (.exit 2) (mkf 175 [(4,a4),(5,a5),(6,a6),(9,a9),(10,a10),(11,a11),(12,a12),(13,a13),(14,a14),(15,a15),(17,x44),(18,x45),(95,a95),(142,.top),(149,x46)]) S)
 (Q .normal (mkf 175 [(4,a4),(5,a5),(6,a6),(9,a9),(10,a10),(11,a11),(12,a12),(13,a13),(14,a14),(15,a15),(17,x44),(18,x45),(95,a95),(142,.top),(149,x46)]) S))
 (Q (.exit 2) (mkf 175 [(4,a4),(5,a5),(6,a6),(9,a9),(10,a10),(11,a11),(12,a12),(13,a13),(14,a14),(15,a15),(17,a17),(18,a18),(95,a95),(142,x43),(149,.top)]) S)
theorem e135_0 (cf:CallF) (a4:D) (a5:D) (a6:D) (a9:D) (a10:D) (a11:D) (a12:D) (a13:D) (a14:D) (a15:D) (a17:D) (a18:D) (a95:D) (a142:D) (a149:D) (S:Store) (Q:Ex→List D→Store→Prop):wp cf c135_0 (fkill (mkf 175 [(4,a4),(5,a5),(6,a6),(9,a9),(10,a10),(11,a11),(12,a12),(13,a13),(14,a14),(15,a15),(17,a17),(18,a18),(95,a95),(142,a142),(149,a149)]) [149]) S Q=s135_0 cf a4 a5 a6 a9 a10 a11 a12 a13 a14 a15 a17 a18 a95 a142 a149 S Q:=wpS_of (by kernel_rfl)
def s135_r2 (cf:CallF) (a4:D) (a5:D) (a6:D) (a9:D) (a10:D) (a11:D) (a12:D) (a13:D) (a14:D) (a15:D) (a17:D) (a18:D) (a95:D) (a142:D) (a149:D) (S:Store) (Q:Ex→List D→Store→Prop):Prop:=
 OX (fzD a11 S) fun p47=>
 OX (fzD a12 p47.2) fun p48=>
 OX (isoCall cf 146 [p48.1]) fun x49=>
 OX (lenD false a10) fun x50=>
 OX (slcD 1 p47.1 none (some x50)) fun x51=>
 OX (isoCall cf 216 [x51,a9]) fun x52=>
 OX (isoCall cf 146 [x52]) fun x53=>
 Q .ret (mkf 175 [(4,x49),(5,x53),(6,(.i .i64 0)),(9,.top),(10,.top),(11,.top),(12,.top),(13,.top),(14,.top),(15,.top),(17,a17),(18,a18),(95,.top),(142,a142),(149,a149)]) p48.2
theorem e135_r2 (cf:CallF) (a4:D) (a5:D) (a6:D) (a9:D) (a10:D) (a11:D) (a12:D) (a13:D) (a14:D) (a15:D) (a17:D) (a18:D) (a95:D) (a142:D) (a149:D) (S:Store) (Q:Ex→List D→Store→Prop):wp cf c135_r2 (mkf 175 [(4,a4),(5,a5),(6,a6),(9,a9),(10,a10),(11,a11),(12,a12),(13,a13),(14,a14),(15,a15),(17,a17),(18,a18),(95,a95),(142,a142),(149,a149)]) S Q=s135_r2 cf a4 a5 a6 a9 a10 a11 a12 a13 a14 a15 a17 a18 a95 a142 a149 S Q:=wpS_of (by kernel_rfl)
def s135_1 (cf:CallF) (a4:D) (a5:D) (a6:D) (a9:D) (a10:D) (a11:D) (a12:D) (a13:D) (a14:D) (a15:D) (a17:D) (a18:D) (a95:D) (a142:D) (a149:D) (S:Store) (Q:Ex→List D→Store→Prop):Prop:=
 OX (binD .geq .num a15 (.i .i64 0)) fun x54=>
 WB x54
 (OX (lenD false a10) fun x55=>
 OX (binD .add .num a15 x55) fun x56=>
 OX (iaD 1 a11 x56) fun x57=>
 OX (ldD S 1 false x57) fun x58=>
 OX (convD .u64 x58) fun x59=>
 OX (binD .shl .num x59 (.i .u64 32)) fun x60=>
 OX (lenD false a10) fun x61=>
 OX (binD .add .num a15 x61) fun x62=>
 OX (binD .sub .num x62 (.i .i64 1)) fun x63=>
 OX (iaD 1 a11 x63) fun x64=>
 OX (ldD S 1 false x64) fun x65=>
 OX (convD .u64 x65) fun x66=>
 OX (binD .or .num x60 x66) fun x67=>
 OX (binD .quo .num x67 a13) fun x68=>
 OX (binD .rem .num x67 a13) fun x69=>
 W cf (.loop [149] c135_0) (mkf 175 [(4,a4),(5,a5),(6,a6),(9,a9),(10,a10),(11,a11),(12,a12),(13,a13),(14,a14),(15,a15),(17,x68),(18,x69),(95,.top),(142,a142),(149,a149)]) S (Qblk 2 (QS cf c135_r0 (Qblk 1 (QS cf c135_r1 Q)))))
 (Q (.exit 0) (mkf 175 [(4,a4),(5,a5),(6,a6),(9,a9),(10,a10),(11,a11),(12,a12),(13,a13),(14,a14),(15,a15),(17,a17),(18,a18),(95,x54),(142,a142),(149,a149)]) S)
theorem e135_1 (cf:CallF) (a4:D) (a5:D) (a6:D) (a9:D) (a10:D) (a11:D) (a12:D) (a13:D) (a14:D) (a15:D) (a17:D) (a18:D) (a95:D) (a142:D) (a149:D) (S:Store) (Q:Ex→List D→Store→Prop):wp cf c135_1 (fkill (mkf 175 [(4,a4),(5,a5),(6,a6),(9,a9),(10,a10),(11,a11),(12,a12),(13,a13),(14,a14),(15,a15),(17,a17),(18,a18),(95,a95),(142,a142),(149,a149)]) []) S Q=s135_1 cf a4 a5 a6 a9 a10 a11 a12 a13 a14 a15 a17 a18 a95 a142 a149 S Q:=wpS_of (by kernel_rfl)
def s135 (cf:CallF) (a0:D) (a1:D) (S:Store) (Post:D→Store→Prop):Prop:=
 OX (isoCall cf 105 [a0]) fun x70=>
 OX (unD .not x70) fun x71=>
 OX (gsel x71 false (some a1)) fun x72=>
 OX (gsel x71 false (isoCall cf 105 [x72])) fun x73=>
 OX (gsel x71 false (unD .not x73)) fun x74=>
 OX (pickD x71 (.b true) x74) fun x75=>
 OX (gsel x75 false (some a1)) fun x76=>
 OX (gsel x75 false (lenD false x76)) fun x77=>
 OX (gsel x75 false (binD .eql .num x77 (.i .i64 0))) fun x78=>
 OX (pickD x75 (.b true) x78) fun x79=>
 WB x79
 (Post (.tup [(.sl 1 true [] .ro),(.sl 1 true [] .ro),(.i .i64 1)]) S)
 (OX (isoCall cf 82 [a0,a1]) fun x80=>
 OX (binD .lss .num x80 (.i .i64 0)) fun x81=>
 WB x81
 (OX (isoCall cf 110 [a0]) fun x82=>
 OX (isoCall cf 146 [x82]) fun x83=>
 Post (.tup [(.sl 1 true [] .ro),x83,(.i .i64 0)]) S)
 (OX (lenD false a1) fun x84=>
 OX (binD .eql .num x84 (.i .i64 1)) fun x85=>
 WB x85
 (OX (iaD 1 a1 (.i .i64 0)) fun x86=>
 OX (ldD S 1 false x86) fun x87=>
 OX (isoCall cf 154 [a0,x87]) fun x88=>
 OX (extD x88 0) fun x89=>
 OX (extD x88 1) fun x90=>
 OX (convD .u64 x90) fun x91=>
 OX (isoCall cf 83 [x91]) fun x92=>
 Post (.tup [x89,x92,(.i .i64 0)]) S)
 (OX (lenD false a1) fun x93=>
 OX (binD .sub .num x93 (.i .i64 1)) fun x94=>
 OX (iaD 1 a1 x94) fun x95=>
 OX (ldD S 1 false x95) fun x96=>
 OX (isoCall cf 212 [x96]) fun x97=>
 OX (isoCall cf 213 [a1,x97]) fun x98=>
 OX (lenD false a1) fun x99=>
 OX (slcD 1 x98 none (some x99)) fun x100=>
 OX (cf 1213 [a0,x97] S) fun p102=>
 OX (lenD false a0) fun x103=>
 OX (lenD false a1) fun x104=>
 OX (binD .sub .num x103 x104) fun x105=>
 OX (binD .add .num x105 (.i .i64 1)) fun x106=>
 OX (mkslV 1 true [.i .u32 0] p102.2 x106) fun p108=>
 OX (lenD false x100) fun x109=>
 OX (binD .sub .num x109 (.i .i64 1)) fun x110=>
 OX (iaD 1 x100 x110) fun x111=>
 OX (ldD p108.2 1 false x111) fun x112=>
 OX (convD .u64 x112) fun x113=>
 OX (lenD false x100) fun x114=>
 OX (binD .sub .num x114 (.i .i64 2)) fun x115=>
 OX (iaD 1 x100 x115) fun x116=>
 OX (ldD p108.2 1 false x116) fun x117=>
 OX (convD .u64 x117) fun x118=>
 OX (lenD false p108.1) fun x119=>
 OX (binD .sub .num x119 (.i .i64 1)) fun x120=>
 W cf (.loop [] c135_1) (mkf 175 [(4,.top),(5,.top),(6,.top),(9,x97),(10,x100),(11,p102.1),(12,p108.1),(13,x113),(14,x118),(15,x120),(17,.top),(18,.top),(95,.top),(142,.top),(149,.top)]) p108.2 (Qblk 0 (QS cf c135_r2 (FinK [.t 4,.t 5,.t 6] Post))))))
theorem e135 (cf:CallF) (a0:D) (a1:D) (S:Store) (Post:D→Store→Prop):wp cf c135 (frame0 d135 [a0,a1]) S (FinK d135.res Post)=s135 cf a0 a1 S Post:=wpS_of (by kernel_rfl)
theorem j135 (a0:D) (a1:D) (Post:D→Prop) (ha:noRefL (stripL [a0,a1])=true) (hr:∀ r,Post r→noRef r=true) (h:s135 (call dp) (strip a0) (strip a1) [] fun d _=>Post (stripT d)):∃ r,isoCall (call dp) 135 [a0,a1]=some r∧Post r:=iso_x (f:=d135) rfl ⟨rfl,by decide⟩ ha hr (by rw [←e135] at h;exact h)
def s107_r0 (cf:CallF) (a0:D) (a1:D) (a4:D) (a16:D) (S:Store) (Q:Ex→List D→Store→Prop):Prop:=
 Q .ret (mkf 27 [(0,.top),(1,.top),(4,a0),(16,.top)]) S
theorem e107_r0 (cf:CallF) (a0:D) (a1:D) (a4:D) (a16:D) (S:Store) (Q:Ex→List D→Store→Prop):wp cf c107_r0 (mkf 27 [(0,a0),(1,a1),(4,a4),(16,a16)]) S Q=s107_r0 cf a0 a1 a4 a16 S Q:=wpS_of (by kernel_rfl)
def s107_0 (cf:CallF) (a0:D) (a1:D) (a4:D) (a16:D) (S:Store) (Q:Ex→List D→Store→Prop):Prop:=
 OX (lenD false a1) fun x1=>
 OX (binD .gtr .num x1 (.i .i64 0)) fun x2=>
 WB x2
 (OX (isoCall cf 135 [a0,a1]) fun x3=>
 OX (extD x3 0) fun x4=>
 OX (extD x3 1) fun x5=>
 OX (extD x3 2) fun x6=>
 Q .normal (mkf 27 [(0,a1),(1,x5),(4,a4),(16,.top)]) S)
 (Q (.exit 0) (mkf 27 [(0,a0),(1,a1),(4,a4),(16,x2)]) S)
theorem e107_0 (cf:CallF) (a0:D) (a1:D) (a4:D) (a16:D) (S:Store) (Q:Ex→List D→Store→Prop):wp cf c107_0 (fkill (mkf 27 [(0,a0),(1,a1),(4,a4),(16,a16)]) []) S Q=s107_0 cf a0 a1 a4 a16 S Q:=wpS_of (by kernel_rfl)
def s107 (cf:CallF) (a0:D) (a1:D) (S:Store) (Post:D→Store→Prop):Prop:=
 OX (isoCall cf 143 [a0]) fun x7=>
 OX (isoCall cf 110 [x7]) fun x8=>
 OX (isoCall cf 143 [a1]) fun x9=>
 OX (isoCall cf 110 [x9]) fun x10=>
 W cf (.loop [] c107_0) (mkf 27 [(0,x8),(1,x10),(4,.top),(16,.top)]) S (Qblk 0 (QS cf c107_r0 (FinK [.t 4] Post)))
theorem e107 (cf:CallF) (a0:D) (a1:D) (S:Store) (Post:D→Store→Prop):wp cf c107 (frame0 d107 [a0,a1]) S (FinK d107.res Post)=s107 cf a0 a1 S Post:=wpS_of (by kernel_rfl)
theorem j107 (a0:D) (a1:D) (Post:D→Prop) (ha:noRefL (stripL [a0,a1])=true) (hr:∀ r,Post r→noRef r=true) (h:s107 (call dp) (strip a0) (strip a1) [] fun d _=>Post (stripT d)):∃ r,isoCall (call dp) 107 [a0,a1]=some r∧Post r:=iso_x (f:=d107) rfl ⟨rfl,by decide⟩ ha hr (by rw [←e107] at h;exact h)
def s110 (cf:CallF) (a0:D) (S:Store) (Post:D→Store→Prop):Prop:=
 OX (binD .eql .sl a0 (.sl 1 true [] .ro)) fun x1=>
 WB x1
 (Post (.sl 1 true [] .ro) S)
 (OX (cellsV 1 false []) fun x2=>
 OX (appD 1 false (bslO 1 x2 S).1 a0 (bslO 1 x2 S).2) fun p4=>
 Post p4.1 p4.2)
theorem e110 (cf:CallF) (a0:D) (S:Store) (Post:D→Store→Prop):wp cf c110 (frame0 d110 [a0]) S (FinK d110.res Post)=s110 cf a0 S Post:=wpS_of (by kernel_rfl)
theorem i110 (a0:D) (r:D) (ha:noRefL (stripL [a0])=true) (hr:noRef r=true) (h:s110 (call dp) (strip a0) [] fun d _=>stripT d=r):isoCall (call dp) 110 [a0]=some r:=iso_s (f:=d110) rfl ⟨rfl,by decide⟩ ha hr (by rw [←e110] at h;exact h)
def s106_r0 (cf:CallF) (a0:D) (a1:D) (a4:D) (a12:D) (a13:D) (a14:D) (S:Store) (Q:Ex→List D→Store→Prop):Prop:=
 Q .ret (mkf 26 [(0,.top),(1,.top),(4,(.b true)),(12,.top),(13,.top),(14,.top)]) S
theorem e106_r0 (cf:CallF) (a0:D) (a1:D) (a4:D) (a12:D) (a13:D) (a14:D) (S:Store) (Q:Ex→List D→Store→Prop):wp cf c106_r0 (mkf 26 [(0,a0),(1,a1),(4,a4),(12,a12),(13,a13),(14,a14)]) S Q=s106_r0 cf a0 a1 a4 a12 a13 a14 S Q:=wpS_of (by kernel_rfl)
def s106_0 (cf:CallF) (a0:D) (a1:D) (a4:D) (a12:D) (a13:D) (a14:D) (S:Store) (Q:Ex→List D→Store→Prop):Prop:=
 OX (binD .lss .num a13 a12) fun x1=>
 WB x1
 (OX (iaD 1 a0 a13) fun x2=>
 OX (ldD S 1 false x2) fun x3=>
 OX (iaD 1 a1 a13) fun x4=>
 OX (ldD S 1 false x4) fun x5=>
 OX (binD .neq .num x3 x5) fun x6=>
 WB x6
 (Q .ret (mkf 26 [(0,.top),(1,.top),(4,(.b false)),(12,.top),(13,.top),(14,.top)]) S)
 (OX (binD .add .num a13 (.i .i64 1)) fun x7=>
 Q .normal (mkf 26 [(0,a0),(1,a1),(4,a4),(12,a12),(13,x7),(14,.top)]) S))
 (Q (.exit 0) (mkf 26 [(0,a0),(1,a1),(4,a4),(12,a12),(13,a13),(14,x1)]) S)
theorem e106_0 (cf:CallF) (a0:D) (a1:D) (a4:D) (a12:D) (a13:D) (a14:D) (S:Store) (Q:Ex→List D→Store→Prop):wp cf c106_0 (fkill (mkf 26 [(0,a0),(1,a1),(4,a4),(12,a12),(13,a13),(14,a14)]) []) S Q=s106_0 cf a0 a1 a4 a12 a13 a14 S Q:=wpS_of (by kernel_rfl)
def s106 (cf:CallF) (a0:D) (a1:D) (S:Store) (Post:D→Store→Prop):Prop:=
 OX (lenD false a0) fun x8=>
 OX (lenD false a1) fun x9=>
 OX (binD .neq .num x8 x9) fun x10=>
 WB x10
 (Post (.b false) S)
 (OX (lenD false a0) fun x11=>
 W cf (.loop [] c106_0) (mkf 26 [(0,a0),(1,a1),(4,.top),(12,x11),(13,(.i .i64 0)),(14,.top)]) S (Qblk 0 (QS cf c106_r0 (FinK [.t 4] Post))))
theorem e106 (cf:CallF) (a0:D) (a1:D) (S:Store) (Post:D→Store→Prop):wp cf c106 (frame0 d106 [a0,a1]) S (FinK d106.res Post)=s106 cf a0 a1 S Post:=wpS_of (by kernel_rfl)
theorem i106 (a0:D) (a1:D) (r:D) (ha:noRefL (stripL [a0,a1])=true) (hr:noRef r=true) (h:s106 (call dp) (strip a0) (strip a1) [] fun d _=>stripT d=r):isoCall (call dp) 106 [a0,a1]=some r:=iso_s (f:=d106) rfl ⟨rfl,by decide⟩ ha hr (by rw [←e106] at h;exact h)
end Go.Proofs.YtjniafcnjbbomaaGreatDoor.DE

namespace Go.Proofs.YtjniafcnjbbomaaGreatDoor.DE.V
open Go NL
theorem ld_el1 (S:Store) (x:D):ldD S 1 false (.el [x] 0)=some x:=(rfl)
theorem lss_nat {k:IntKind} (a b:Nat):binD .lss .num (.i k a) (.i k b)=some (.b (decide (a<b))):=by rw [bin_lss];simp
theorem geq_nat {k:IntKind} (a b:Nat):binD .geq .num (.i k a) (.i k b)=some (.b (decide (b≤a))):=by rw [bin_geq];simp
theorem inc_nat {a:Nat} (h:Bd a):binD .add .num (.i .i64 a) (.i .i64 1)=some (.i .i64 ((a+1:Nat):Int)):=by rw [bin_add,wrapS h]
theorem add_nat {a b:Nat} (h:a+b<9223372036854775808):binD .add .num (.i .i64 a) (.i .i64 b)=some (.i .i64 ((a+b:Nat):Int)):=by
 rw [bin_add,←Int.natCast_add,wrapN h]
theorem sub_nat {a b:Nat} (h:b≤a) (ha:a<9223372036854775808):binD .sub .num (.i .i64 a) (.i .i64 b)=some (.i .i64 ((a-b:Nat):Int)):=by
 rw [bin_sub,show ((a:Int)-b)=((a-b:Nat):Int) by omega,wrapN (by omega)]
theorem OX_tt (K:D→Prop):OX (some (.b true)) K=K (.b true):=rfl
theorem OX_ff (K:D→Prop):OX (some (.b false)) K=K (.b false):=rfl
theorem add_step {P O A C c x y:Nat} (h:O+P * c=A+C):O+P * ((x+y+c) % B)+P * B * ((x+y+c) / B)=A+P * x+(C+P * y):=by
 have h1:=Nat.mod_add_div (x+y+c) B
 have h2:=congrArg (P * ·) h1
 simp only [Nat.mul_add] at h2
 rw [Nat.mul_assoc]
 omega
def J80 (nl nl':Bool) (a b:List Nat) (n:Nat):Nat→List D→Store→Prop:=fun q fr S=>∃ i c out a4 a5 a33,q=n-i∧i≤n∧c≤1∧List.length out=n∧Lim out∧(∀ j,i≤j→dg out j=0) ∧
 val out+B ^ i * c=val (a.take i)+val (b.take i)∧S=[.box (eCells out),.box [eLims nl' b .ro],.box [eLims nl a .ro]] ∧
 fr=mkf 54 [(4,a4),(5,a5),(6,.fn 221 [.bx 0 0]),(7,.fn 221 [.bx 1 0]),(8,.ar 1 2 0 n),(9,.i .u32 c),(31,.i .i64 n),(32,.i .i64 i),(33,a33)]
theorem v80 (nl nl':Bool) (a b:List Nat) (ha:VN a) (hb:VN b) (la:Lim a) (lb:Lim b) :
  isoCall (call dp) 80 [eLims nl a .ro,eLims nl' b .ro]=some (if Lt128 (val a+val b) then .tup [eLims false (ofN (val a+val b)) .ro,.i .i64 0] else .tup [.sl 1 true [] .ro,.i .i64 6]):=by
 have h1:=ha.1
 have h2:=hb.1
 apply i80 _ _ _ (by simp [noRefL]) (by split <;> simp [noRef,noRefL,noRefLL])
 have hba:Bd a.length:=by unfold Bd;omega
 have hbb:Bd b.length:=by unfold Bd;omega
 have hm:binD .add .num (.i .i64 ((max a.length b.length:Nat):Int)) (.i .i64 1)=some (.i .i64 ((max a.length b.length+1:Nat):Int)):=inc_nat (by unfold Bd;omega)
 have hmx:mxD (.i .i64 (a.length:Int)) (.i .i64 (b.length:Int))=some (.i .i64 ((max a.length b.length:Nat):Int)):=by
  simp only [mxD,if_true]
  congr 2
  split <;> omega
 have mk:=fun S=>mksl_lims (S:=S) (n:=max a.length b.length+1) (by unfold maxLenD;omega)
 have hn:max a.length b.length+1≤129:=by omega
 have hla:a.length<max a.length b.length+1:=by omega
 have hlb:b.length<max a.length b.length+1:=by omega
 simp only [s80,strip_lims,v105 nl a hba,v105 nl' b hbb,ha,hb,decide_true,OX_some,un_not,Bool.not_true,gsel_ff,gsel_tf,gsel_tt,gsel_ft,pick_f,pick_t,WB_false,v141,len_lims,hmx,hm,mk,len_ar,List.length_cons,List.length_nil]
 generalize max a.length b.length+1=n at *
 refine W_loop (J80 nl nl' a b n) ?_ n _ _ ⟨0,0,_,_,_,_,by omega,by omega,by omega,List.length_replicate,lim_zeros n,fun j _=>dg_zeros n j,by rw [val_zeros];simp [val],rfl,rfl⟩
 rintro q fr S ⟨i,c,out,a4,a5,a33,rfl,hin,hc,lo,hL,hz,he,rfl,rfl⟩
 rw [←wp_W,e80_0]
 by_cases hlt:i<n
 ·have l1:sget [Ent.box (eCells out),.box [eLims nl' b .ro],.box [eLims nl a .ro]] 0=some (.box [eLims nl a .ro]):=rfl
  have l2:sget [Ent.box (eCells out),.box [eLims nl' b .ro],.box [eLims nl a .ro]] 1=some (.box [eLims nl' b .ro]):=rfl
  have l3:sget [Ent.box (eCells out),.box [eLims nl' b .ro],.box [eLims nl a .ro]] 2=some (.box (eCells out)):=rfl
  have hst:=fun x=>st_cells (x:=x) l3 (i:=i) (by omega)
  have hia:=ia_ar (id:=2) (o:=0) (n:=n) (k:=.i64) (i:=i) hlt
  simp only [s80_0,lss_nat,hlt,decide_true,OX_tt,OX_some,WB_true,fnD_fn,List.cons_append,List.nil_append,v221 nl a i 0 _ l1,v221 nl' b i 1 _ l2,v142 (dg_lt la i) (dg_lt lb i) hc,ext_eq,List.getElem?_cons_zero,List.getElem?_cons_succ,hia,Nat.zero_add,hst,inc_nat (show Bd i by unfold Bd;omega),Qseq_normal]
  refine ⟨n-(i+1),by omega,i+1,_,out.set i _,_,_,_,rfl,by omega,?_,by simpa using lo,lim_set hL (Nat.mod_lt _ B_pos),?_,?_,rfl,rfl⟩
  ·have:=dg_lt la i
   have:=dg_lt lb i
   simp only [B] at *
   omega
  ·intro j hj
   rw [dg_set_ne (by omega)]
   exact hz j (by omega)
  ·rw [vt_succ,vt_succ,val_set0 _ (by omega) (hz i (Nat.le_refl i)),Nat.pow_succ]
   exact add_step he
 ·have:i=n:=by omega
  subst this
  have hc0:c=0:=by
   have e1:=val_lt la
   have e2:=val_lt lb
   rw [vt_full (by omega),vt_full (by omega)] at he
   obtain ⟨p,rfl⟩:∃ p,i=p+1:=⟨i-1,by omega⟩
   have e3:B ^ a.length≤B ^ p:=Nat.pow_le_pow_right B_pos (by omega)
   have e4:B ^ b.length≤B ^ p:=Nat.pow_le_pow_right B_pos (by omega)
   rw [Nat.pow_succ] at he
   have:c=0∨c=1:=by omega
   rcases this with h | h
   ·exact h
   ·subst h
    have hp:=Bp p
    generalize B ^ p=P at *
    simp only [B] at he
    omega
  subst hc0
  have l3:sget [Ent.box (eCells out),.box [eLims nl' b .ro],.box [eLims nl a .ro]] 2=some (.box (eCells out)):=rfl
  have hf:=fz_lims l3
  rw [lo] at hf
  have hv:val out=val a+val b:=by
   rw [vt_full (by omega),vt_full (by omega)] at he
   simpa using he
  have hb':Bd out.length:=by unfold Bd;omega
  have h134:=v134 false out hL hb'
  rw [hv] at h134
  simp only [s80_0,lss_nat,hlt,decide_false,OX_ff,OX_some,WB_false,Qseq_exit,Qblk_same,QS_normal,e80_r0,s80_r0,hf,h134]
  by_cases hq:Lt128 (val a+val b)
  ·simp only [hq,if_true,OX_some,ext_eq,List.getElem?_cons_zero,List.getElem?_cons_succ]
   simp
  ·simp only [hq,if_false,OX_some,ext_eq,List.getElem?_cons_zero,List.getElem?_cons_succ]
   simp [strip]
theorem sub_step {P O A C c x y d w:Nat} (h:O+C=A+P * c) (hd:d+y+c=x+B * w):O+P * d+(C+P * y)=A+P * x+P * B * w:=by
 have h2:=congrArg (P * ·) hd
 simp only [Nat.mul_add] at h2
 rw [Nat.mul_assoc]
 omega
def J161 (nl nl':Bool) (a b:List Nat) (n:Nat):Nat→List D→Store→Prop:=fun q fr S=>∃ i c out a4 a5 a33,q=n-i∧i≤n∧c≤1∧List.length out=n∧Lim out∧(∀ j,i≤j→dg out j=0) ∧
 val out+val (b.take i)=val (a.take i)+B ^ i * c∧S=[.box (eCells out),.box [eLims nl' b .ro],.box [eLims nl a .ro]] ∧
 fr=mkf 54 [(4,a4),(5,a5),(6,.fn 221 [.bx 0 0]),(7,.fn 221 [.bx 1 0]),(8,.ar 1 2 0 n),(9,.i .u32 c),(33,.i .i64 n),(34,.i .i64 i),(35,a33)]
theorem sgn_lt (x y:Nat):decide (sgn x y<0)=decide (x<y):=by
 unfold sgn
 by_cases h:x<y
 ·simp [h]
 ·rw [if_neg h]
  by_cases h2:x=y <;> simp [h,h2]
theorem len_le_of_val {a b:List Nat} (la:Lim a) (hb:NL.Can b) (h:val b≤val a):b.length≤a.length:=by
 rcases Nat.lt_or_ge a.length b.length with q | q
 ·have:=lt_len la hb q;omega
 ·exact q
theorem v161 (nl nl':Bool) (a b:List Nat) (ha:VN a) (hb:VN b) (la:Lim a) (lb:Lim b) :
  isoCall (call dp) 161 [eLims nl a .ro,eLims nl' b .ro]=some (if val b≤val a then .tup [eLims false (ofN (val a-val b)) .ro,.b true] else .tup [.sl 1 true [] .ro,.b false]):=by
 have h1:=ha.1
 have h2:=hb.1
 apply i161 _ _ _ (by simp [noRefL]) (by split <;> simp [noRef,noRefL,noRefLL])
 have hba:Bd a.length:=by unfold Bd;omega
 have hbb:Bd b.length:=by unfold Bd;omega
 have mk:=fun S=>mksl_lims (S:=S) (n:=a.length) (by unfold maxLenD;omega)
 have h0:binD .lss .num (.i .i64 (sgn (val a) (val b))) (.i .i64 0)=some (.b (decide (val a<val b))):=by rw [bin_lss,sgn_lt]
 simp only [s161,strip_lims,v105 nl a hba,v105 nl' b hbb,ha,hb,decide_true,OX_some,un_not,Bool.not_true,gsel_ff,pick_f,v82 nl nl' a b ha hb la lb,h0]
 by_cases hle:val b≤val a
 ·have hnlt:¬val a<val b:=by omega
  have hlen:b.length≤a.length:=len_le_of_val la (hb.can lb) hle
  simp only [hle,hnlt,if_true,decide_false,WB_false,v141,OX_some,len_lims,mk,len_ar,List.length_cons,List.length_nil]
  refine W_loop (J161 nl nl' a b a.length) ?_ a.length _ _ ⟨0,0,_,_,_,_,by omega,by omega,by omega,List.length_replicate,lim_zeros _,fun j _=>dg_zeros _ j,by rw [val_zeros];simp [val],rfl,rfl⟩
  rintro q fr S ⟨i,c,out,a4,a5,a33,rfl,hin,hc,lo,hL,hz,he,rfl,rfl⟩
  rw [←wp_W,e161_0]
  have l1:sget [Ent.box (eCells out),.box [eLims nl' b .ro],.box [eLims nl a .ro]] 0=some (.box [eLims nl a .ro]):=rfl
  have l2:sget [Ent.box (eCells out),.box [eLims nl' b .ro],.box [eLims nl a .ro]] 1=some (.box [eLims nl' b .ro]):=rfl
  have l3:sget [Ent.box (eCells out),.box [eLims nl' b .ro],.box [eLims nl a .ro]] 2=some (.box (eCells out)):=rfl
  by_cases hlt:i<a.length
  ·have hst:=fun x=>st_cells (x:=x) l3 (i:=i) (by omega)
   have hia:=ia_ar (id:=2) (o:=0) (n:=a.length) (k:=.i64) (i:=i) hlt
   simp only [s161_0,lss_nat,hlt,decide_true,OX_tt,OX_some,WB_true,fnD_fn,List.cons_append,List.nil_append,v221 nl a i 0 _ l1,v221 nl' b i 1 _ l2,v243 (dg_lt la i) (dg_lt lb i) hc,ext_eq,List.getElem?_cons_zero,List.getElem?_cons_succ,hia,Nat.zero_add,hst,inc_nat (show Bd i by unfold Bd;omega),Qseq_normal]
   refine ⟨a.length-(i+1),by omega,i+1,_,out.set i _,_,_,_,rfl,by omega,borL_le _ _ _,by simpa using lo,lim_set hL (difL_lt _ _ _),?_,?_,rfl,rfl⟩
   ·intro j hj
    rw [dg_set_ne (by omega)]
    exact hz j (by omega)
   ·rw [vt_succ,vt_succ,val_set0 _ (by omega) (hz i (Nat.le_refl i)),Nat.pow_succ]
    exact sub_step he (difL_eq (dg_lt la i) (dg_lt lb i) hc)
  ·have:i=a.length:=by omega
   subst this
   have hv:val out=val a-val b:=by
    rw [vt_full hlen,vt_full (Nat.le_refl _)] at he
    have e1:=val_lt hL
    rw [lo] at e1
    have:c=0∨c=1:=by omega
    rcases this with h | h
    ·subst h;omega
    ·subst h;omega
   have hf:=fz_lims l3
   rw [lo] at hf
   have h146:=v146 false out hL (by unfold Bd;omega)
   rw [hv] at h146
   simp only [s161_0,lss_nat,hlt,decide_false,OX_ff,OX_some,WB_false,Qseq_exit,Qblk_same,QS_normal,e161_r0,s161_r0,hf,h146]
   simp
 ·have hlt:val a<val b:=by omega
  simp only [hle,hlt,if_false,decide_true,WB_true]
  rfl
end Go.Proofs.YtjniafcnjbbomaaGreatDoor.DE.V

namespace Go.Proofs.YtjniafcnjbbomaaGreatDoor.DE.V
open Go NL
theorem mul_bound {x y o c:Nat} (hx:x<B) (hy:y<B) (ho:o<B) (hc:c<B):x * y+o+c<B * B:=by
 have h1:x * y≤(B-1) * (B-1):=Nat.mul_le_mul (by omega) (by omega)
 simp only [B] at *
 omega
theorem mul_step {P O O' A X y o c t I C k:Nat} (h:O+P * c=A+I * X * C) (hO:O'+P * o=O+P * (t % B)) (ht:t=X * y+o+c) (hP:P=I * k):O'+P * B * (t / B)=A+I * X * (C+k * y):=by
 have h1:=Nat.mod_add_div t B
 have h2:=congrArg (P * ·) h1
 simp only [Nat.mul_add] at h2
 rw [Nat.mul_assoc]
 have h3:P * t=P * (X * y)+P * o+P * c:=by rw [ht,Nat.mul_add,Nat.mul_add]
 have h4:I * X * (C+k * y)=I * X * C+P * (X * y):=by
  rw [hP,Nat.mul_add]
  congr 1
  generalize C=z at *
  rw [Nat.mul_assoc,Nat.mul_assoc,←Nat.mul_assoc X,Nat.mul_comm X k,Nat.mul_assoc k]
 omega
def J70 (nl nl':Bool) (a b:List Nat) (n:Nat):Nat→List D→Store→Prop:=fun q fr S=>∃ i out a4 a5 a7 a8 a28 a31 a32 a33,q=a.length-i∧i≤a.length∧List.length out=n∧Lim out∧(∀ j,i+b.length≤j→dg out j=0) ∧
 val out=val (a.take i) * val b∧S=[.box (eCells out)] ∧
 fr=mkf 79 [(0,eLims nl a .ro),(1,eLims nl' b .ro),(4,a4),(5,a5),(6,.ar 1 0 0 n),(7,a7),(8,a8),(26,.i .i64 a.length),(27,.i .i64 i),(28,a28),(31,a31),(32,a32),(33,a33)]
def K70 (nl nl':Bool) (a b:List Nat) (n i:Nat):Nat→List D→Store→Prop:=fun q fr S=>∃ j out c a4 a5 a28 a33,q=b.length-j∧j≤b.length∧c<B∧List.length out=n∧Lim out∧(∀ j,i+b.length≤j→dg out j=0) ∧
 val out+B ^ (i+j) * c=val (a.take i) * val b+B ^ i * dg a i * val (b.take j)∧S=[.box (eCells out)] ∧
 fr=mkf 79 [(0,eLims nl a .ro),(1,eLims nl' b .ro),(4,a4),(5,a5),(6,.ar 1 0 0 n),(7,.i .i64 i),(8,.i .u64 c),(26,.i .i64 a.length),(27,.i .i64 i),(28,a28),(31,.i .i64 b.length),(32,.i .i64 j),(33,a33)]
theorem v70 (nl nl':Bool) (a b:List Nat) (ha:VN a) (hb:VN b) (la:Lim a) (lb:Lim b) :
  isoCall (call dp) 70 [eLims nl a .ro,eLims nl' b .ro]=some (if Lt128 (val a * val b) then .tup [eLims false (ofN (val a * val b)) .ro,.i .i64 0] else .tup [.sl 1 true [] .ro,.i .i64 6]):=by
 have h1:=ha.1
 have h2:=hb.1
 apply i70 _ _ _ (by simp [noRefL]) (by split <;> simp [noRef,noRefL,noRefLL])
 have hba:Bd a.length:=by unfold Bd;omega
 have hbb:Bd b.length:=by unfold Bd;omega
 have mk:=fun S=>mksl_lims (S:=S) (n:=a.length+b.length) (by unfold maxLenD;omega)
 simp only [s70,strip_lims,v105 nl a hba,v105 nl' b hbb,ha,hb,decide_true,OX_some,un_not,Bool.not_true,gsel_ff,pick_f,WB_false,len_lims,add_nat (show a.length+b.length<9223372036854775808 by omega),mk,List.length_nil]
 generalize hn:a.length+b.length=n at *
 refine W_loop (J70 nl nl' a b n) ?_ a.length _ _ ⟨0,_,_,_,_,_,_,_,_,_,by omega,by omega,List.length_replicate,lim_zeros n,fun j _=>dg_zeros n j,by rw [val_zeros];simp [val],rfl,rfl⟩
 rintro q fr S ⟨i,out,a4,a5,a7,a8,a28,a31,a32,a33,rfl,hin,lo,hL,hz,he,rfl,rfl⟩
 rw [←wp_W,e70_1]
 by_cases hlt:i<a.length
 ·simp only [s70_1,lss_nat,hlt,decide_true,OX_tt,WB_true,len_lims,OX_some]
  refine W_loop (K70 nl nl' a b n i) ?_ b.length _ _ ⟨0,out,0,_,_,_,_,by omega,by omega,by decide,lo,hL,hz,by rw [he];simp [val],rfl,rfl⟩
  rintro q fr S ⟨j,out,c,a4,a5,a28,a33,rfl,hjn,hc,lo,hL,hz,he,rfl,rfl⟩
  rw [←wp_W,e70_0]
  have l0:sget [Ent.box (eCells out)] 0=some (.box (eCells out)):=rfl
  by_cases hjl:j<b.length
  ·have hx:=dg_lt la i
   have hy:=dg_lt lb j
   have ho:=dg_lt hL (i+j)
   have hbd:=mul_bound hx hy ho hc
   have hBB:B * B=18446744073709551616:=rfl
   have hq:(dg a i * dg b j+dg out (i+j)+c) / B<B:=by
    rw [Nat.div_lt_iff_lt_mul B_pos];exact hbd
   simp only [s70_0,lss_nat,hjl,decide_true,OX_tt,OX_some,WB_true,ia_lims hlt,ia_lims hjl,ld_el1,conv64B hx,conv64B hy,mul64 (show dg a i * dg b j<18446744073709551616 by omega),
    add_nat (show i+j<9223372036854775808 by omega),ia_ar (show i+j<n by omega),Nat.zero_add,ld_cells l0 (show i+j<out.length by omega),conv64B ho,add64 (show dg a i * dg b j+dg out (i+j)<18446744073709551616 by omega),add64 (show dg a i * dg b j+dg out (i+j)+c<18446744073709551616 by omega),
    conv32m,shr32,st_cells l0 (show i+j<out.length by omega),inc_nat (show Bd j by unfold Bd;omega),Qseq_normal]
   refine ⟨b.length-(j+1),by omega,j+1,out.set (i+j) _,_,_,_,_,_,rfl,by omega,hq,by simpa using lo,lim_set hL (Nat.mod_lt _ B_pos),?_,?_,rfl,rfl⟩
   ·intro k hk
    rw [dg_set_ne (by omega)]
    exact hz k hk
   ·rw [vt_succ,←Nat.add_assoc,Nat.pow_succ]
    exact mul_step he (val_set _ (by omega)) rfl (Nat.pow_add _ _ _)
  ·have:j=b.length:=by omega
   subst this
   simp only [s70_0,lss_nat,hjl,decide_false,OX_ff,WB_false,Qseq_exit,Qblk_same,QS_normal,e70_r0,s70_r0,len_lims,OX_some,add_nat (show i+b.length<9223372036854775808 by omega),ia_ar (show i+b.length<n by omega),Nat.zero_add,conv32 hc,
    st_cells l0 (show i+b.length<out.length by omega),Qblk_normal,e70_r1,s70_r1,inc_nat (show Bd i by unfold Bd;omega),Qseq_normal]
   refine ⟨a.length-(i+1),by omega,i+1,out.set (i+b.length) c,_,_,_,_,_,_,_,_,rfl,by omega,by simpa using lo,lim_set hL hc,?_,?_,rfl,rfl⟩
   ·intro k hk
    rw [dg_set_ne (by omega)]
    exact hz k (by omega)
   ·rw [val_set0 _ (by omega) (hz _ (Nat.le_refl _)),he,vt_succ,vt_full (Nat.le_refl _),Nat.add_mul]
 ·have:i=a.length:=by omega
  subst this
  have l0:sget [Ent.box (eCells out)] 0=some (.box (eCells out)):=rfl
  have hf:=fz_lims l0
  rw [lo] at hf
  rw [vt_full (Nat.le_refl _)] at he
  have h134:=v134 false out hL (by unfold Bd;omega)
  rw [he] at h134
  simp only [s70_1,lss_nat,hlt,decide_false,OX_ff,OX_some,WB_false,Qseq_exit,Qblk_same,QS_normal,e70_r2,s70_r2,hf,h134]
  by_cases hq:Lt128 (val a * val b)
  ·simp only [hq,if_true,OX_some,ext_eq,List.getElem?_cons_zero,List.getElem?_cons_succ]
   simp
  ·simp only [hq,if_false,OX_some,ext_eq,List.getElem?_cons_zero,List.getElem?_cons_succ]
   simp [strip]
def J154 (nl:Bool) (a:List Nat) (d:Nat):Nat→List D→Store→Prop:=fun q fr S=>∃ out a4 a5 a16,q≤a.length∧List.length out=a.length∧Lim out∧(∀ j,j<q→dg out j=0) ∧
 val out=B ^ q * (val (a.drop q) / d)∧S=[.box (eCells out)] ∧
 fr=mkf 43 [(0,eLims nl a .ro),(1,.i .u32 d),(4,a4),(5,a5),(6,.ar 1 0 0 a.length),(7,.i .u64 (val (a.drop q) % d:Nat)),(8,.i .i64 ((q:Int)-1)),(16,a16)]
theorem v154 (nl:Bool) (a:List Nat) (d:Nat) (la:Lim a) (hb:a.length≤1000) (hd:0<d) (hdB:d<B) :
  isoCall (call dp) 154 [eLims nl a .ro,.i .u32 d]=some (.tup [eLims false (ofN (val a / d)) .ro,.i .u32 (val a % d:Nat)]):=by
 apply i154 _ _ _ (by simp [noRefL]) (by simp [noRef,noRefL])
 have mk:=fun S=>mksl_lims (S:=S) (n:=a.length) (by unfold maxLenD;omega)
 simp only [s154,strip_lims,strip_i,len_lims,OX_some,mk,bin_sub,List.length_nil]
 rw [wrap64 ⟨by omega,by omega⟩]
 refine W_loop (J154 nl a d) ?_ a.length _ _ ⟨_,_,_,_,Nat.le_refl _,List.length_replicate,lim_zeros _,fun j _=>dg_zeros _ j,by rw [val_zeros,List.drop_length];simp [val],rfl,by simp only [List.drop_length,val,Nat.zero_mod];rfl⟩
 rintro q fr S ⟨out,a4,a5,a16,hq,lo,hL,hz,he,rfl,rfl⟩
 rw [←wp_W,e154_0]
 have l0:sget [Ent.box (eCells out)] 0=some (.box (eCells out)):=rfl
 by_cases h0:q=0
 ·subst h0
  rw [List.drop_zero] at he ⊢
  simp only [Nat.pow_zero,Nat.one_mul] at he
  have hf:=fz_lims l0
  rw [lo] at hf
  have h146:=v146 false out hL (by unfold Bd;omega)
  rw [he] at h146
  have hr:val a % d<B:=Nat.lt_trans (Nat.mod_lt _ hd) hdB
  have hg:binD .geq .num (.i .i64 (((0:Nat):Int)-1)) (.i .i64 0)=some (.b false):=by rw [bin_geq];rfl
  simp only [s154_0,hg,OX_some,WB_false,Qseq_exit,Qblk_same,QS_normal,e154_r0,s154_r0,hf,h146,conv32 hr]
  simp
 ·obtain ⟨k,rfl⟩:∃ k,q=k+1:=⟨q-1,by omega⟩
  have e1:((k+1:Nat):Int)-1=k:=by omega
  have hka:k<a.length:=by omega
  have hg:binD .geq .num (.i .i64 (k:Int)) (.i .i64 0)=some (.b true):=by rw [bin_geq];simp
  have hx:=dg_lt la k
  have hr:val (a.drop (k+1)) % d<d:=Nat.mod_lt _ hd
  have hrB:val (a.drop (k+1)) % d<B:=Nat.lt_trans hr hdB
  have hq:=byLimb_lt hr hx
  have hvd:val (a.drop k)=dg a k+B * val (a.drop (k+1)):=by rw [drop_dg hka];rfl
  have hs:=byLimb_step (X:=val (a.drop (k+1))) (d:=d) (x:=dg a k) hd
  rw [←hvd] at hs
  have hlt:val (a.drop (k+1)) % d * B+dg a k<18446744073709551616:=by
   generalize val (a.drop (k+1)) % d=r at *
   simp only [B] at *;omega
  have hw:IntKind.i64.wrap ((k:Int)-1)=(k:Int)-1:=wrap64 ⟨by omega,by omega⟩
  simp only [e1,s154_0,hg,OX_some,WB_true,shl32 hrB,ia_lims hka,ld_el1,conv64B hx,orB hrB hx,conv64B hdB,quo64 hd hlt,conv32 hq,rem64 hd,ia_ar hka,Nat.zero_add,st_cells l0 (show k<out.length by omega),bin_sub,hw,Qseq_normal]
  refine ⟨k,by omega,out.set k _,a4,a5,.top,by omega,by simpa using lo,lim_set hL hq,?_,?_,rfl,?_⟩
  ·intro j hj
   rw [dg_set_ne (by omega)]
   exact hz j (by omega)
  ·rw [val_set0 _ (by omega) (hz k (by omega)),he,hs.1,Nat.mul_add,Nat.pow_succ,Nat.mul_assoc];omega
  ·rw [hs.2]
theorem bin_nil_lims (nl:Bool) (l:List Nat) (o o':Own):binD .eql .sl (eLims nl l o) (.sl 1 true [] o')=some (.b nl):=(rfl)
theorem v110 (nl:Bool) (a:List Nat) (hn:nl=true→a=[]) (hb:a.length≤1000):isoCall (call dp) 110 [eLims nl a .ro]=some (eLims nl a .ro):=by
 apply i110 _ _ (by simp [noRefL]) (by simp)
 simp only [s110,strip_lims,bin_nil_lims,OX_b,WB_b]
 cases nl with
 | true=>simp [hn rfl,eLims];rfl
 | false=>
  have h:(List.map (fun n:Nat=>[D.i .u32 (n:Int)]) a).length≤maxLenD:=by
   rw [List.length_map];unfold maxLenD;omega
  have e:=app_cap0 (k:=1) (n:=false) (n':=false) (ys:=List.map (fun n:Nat=>[D.i .u32 (n:Int)]) a) (o:=.ro) (S:=[]) h
  have e':appD 1 false (D.sl 1 false [] .cap0) (eLims false a .ro) []=_:=e
  simp only [Bool.false_eq_true,if_false,cellsV_nil,OX_some,bslO_nil,e',WB_false]
  by_cases ha:a=[]
  ·subst ha;rfl
  ·rw [if_neg (by simpa using ha)];rfl
def J106 (nl nl':Bool) (a b:List Nat):Nat→List D→Store→Prop:=fun q fr S=>∃ i a4 a14,q=b.length-i∧i≤b.length∧a.take i=b.take i∧S=[] ∧
 fr=mkf 26 [(0,eLims nl a .ro),(1,eLims nl' b .ro),(4,a4),(12,.i .i64 b.length),(13,.i .i64 i),(14,a14)]
theorem v106 (nl nl':Bool) (a b:List Nat) (ha:Bd a.length):isoCall (call dp) 106 [eLims nl a .ro,eLims nl' b .ro]=some (.b (decide (a=b))):=by
 apply i106 _ _ _ (by simp [noRefL]) rfl
 simp only [s106,strip_lims,len_lims,OX_some,bin_neq]
 by_cases hl:a.length=b.length
 ·have hl':(a.length:Int)=b.length:=by omega
  have hd:(!decide ((a.length:Int)=b.length))=false:=by simp [hl']
  simp only [hd,WB_false,hl',OX_some]
  refine W_loop (J106 nl nl' a b) ?_ b.length _ _ ⟨0,.top,.top,by omega,by omega,by simp,rfl,rfl⟩
  rintro q fr S ⟨i,a4,a14,rfl,hi,he,rfl,rfl⟩
  rw [←wp_W,e106_0]
  by_cases hlt:i<b.length
  ·simp only [s106_0,lss_nat,hlt,decide_true,OX_tt,OX_some,WB_true,ia_lims hlt,ia_lims (show i<a.length by omega),ld_el1,bin_neq]
   by_cases hd:dg a i=dg b i
   ·have:(!decide (((dg a i:Nat):Int)=(dg b i:Nat)))=false:=by simp [hd]
    simp only [this,WB_false,inc_nat (show Bd i by unfold Bd at *;omega),OX_some,Qseq_normal]
    exact ⟨b.length-(i+1),by omega,i+1,a4,.top,rfl,by omega,take_next he (get_dg (by omega)) (by rw [hd];exact get_dg hlt),rfl,rfl⟩
   ·have h2:¬((dg a i:Nat):Int)=(dg b i:Nat):=by omega
    have:(!decide (((dg a i:Nat):Int)=(dg b i:Nat)))=true:=by simp [h2]
    have hne:¬a=b:=by rintro rfl;exact hd rfl
    simp [this,hne]
  ·have:a=b:=take_full he (by omega) (by omega)
   subst this
   simp only [s106_0,lss_nat,hlt,decide_false,OX_ff,WB_false,Qseq_exit,Qblk_same,QS_normal,e106_r0,s106_r0]
   simp
 ·have hl':¬(a.length:Int)=b.length:=by omega
  have hd:(!decide ((a.length:Int)=b.length))=true:=by simp [hl']
  have hne:¬a=b:=by rintro rfl;exact hl rfl
  simp only [hd,WB_true,hne,decide_false,stripT_b]
end Go.Proofs.YtjniafcnjbbomaaGreatDoor.DE.V
