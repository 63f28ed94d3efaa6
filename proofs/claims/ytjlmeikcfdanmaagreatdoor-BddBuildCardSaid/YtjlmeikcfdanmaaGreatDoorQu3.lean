/-
  SEVERAL TEXTS IN ONE (joined by tools/assemble.py of this repository): De25, Rw, Aa, Sf, Pa, Pb, Sa, Ta, Va, Si, Sh, Sl, Ab, Ac.
-/
import Derived.Test.YtjlmeikcfdanmaaGreatDoorQu2
import Derived.Test.YtjlmeikcfdanmaaGreatDoorRows
import Derived.ProofKit
import Derived.Deep.Slices
import Derived.Deep.Strs
import Derived.KernelRfl
import Derived.Sort.AssemblyPlain
import GoSem.Dispatch
set_option linter.unusedVariables false
set_option linter.unusedSimpArgs false
namespace Go.Proofs.YtjlmeikcfdanmaaGreatDoor.DE.V
open Go
theorem sget_lt {α:Type} {e:α}:∀ {S:List α} {id:Nat},sget S id=some e→id<S.length
 | [],_,h=>by simp [sget] at h
 | x::S,id,h=>by
  simp only [sget] at h
  split at h
  ·rename_i q;simp [q]
  ·have:=sget_lt h;simp;omega
@[simp] theorem sget_top {α:Type} (e:α) (S:List α):sget (e::S) S.length=some e:=by simp [sget]
theorem sget_push {α:Type} {e x:α} {S:List α} {id:Nat} (h:sget S id=some x):sget (e::S) id=some x:=by
 have:=sget_lt h
 simp only [sget]
 rw [if_neg (by omega)];exact h
@[simp] theorem sset_top {α:Type} (e x:α) (S:List α):sset (e::S) S.length x=x::S:=by simp [sset]
theorem sset_len {α:Type} (x:α):∀ (S:List α) (id:Nat),(sset S id x).length=S.length
 | [],_=>rfl
 | e::S,id=>by
  simp only [sset]
  split
  ·rfl
  ·simp [sset_len x S id]
theorem sget_sset {α:Type} (x:α):∀ {S:List α} {id:Nat},id<S.length→sget (sset S id x) id=some x
 | [],_,h=>by simp at h
 | e::S,id,h=>by
  simp only [sset]
  split
  ·rename_i q;simp [sget,q]
  ·rename_i q
   simp only [sget,sset_len]
   rw [if_neg q]
   exact sget_sset x (by simp at h;omega)
theorem sget_sset_ne {α:Type} (x:α):∀ {S:List α} {id j:Nat},j≠id→sget (sset S id x) j=sget S j
 | [],_,_,_=>rfl
 | e::S,id,j,h=>by
  simp only [sset]
  split
  ·rename_i q
   subst q
   simp [sget,h]
  ·simp only [sget,sset_len]
   rw [sget_sset_ne x h]
@[simp high] theorem OX_b (c:Bool) (K:D→Prop):OX (some (.b c)) K=if c=true then K (.b true) else K (.b false):=by cases c <;> rfl
def in64 (n:Int):Prop:=-9223372036854775808≤n∧n≤9223372036854775807
abbrev Row:=Int × Int
abbrev Nd:=Int × Int × Int
def eRow (r:Row):List D:=[.i .i64 r.1,.i .i64 r.2]
def eNd (x:Nd):List D:=[.i .i64 x.1,.i .i64 x.2.1,.i .i64 x.2.2]
def eRows (nl:Bool) (l:List Row):D:=.sl 2 nl (l.map eRow) .ro
def eNds (nl:Bool) (l:List Nd):D:=.sl 3 nl (l.map eNd) .ro
def eB (nl nl':Bool) (ord:List Row) (ns:List Nd) (root:Int):D:=.agg [eRows nl ord,eNds nl' ns,.i .i64 root]
def okRow (r:Row):Prop:=in64 r.1∧in64 r.2
def rowOk (r:Row):Bool:=decide (1≤r.1)&&decide (1≤r.2)
theorem noRefL_eRow (r:Row):noRefL (eRow r)=true:=rfl
theorem noRefL_eNd (r:Nd):noRefL (eNd r)=true:=rfl
theorem noRefLL_map {α:Type} (f:α→List D) (h:∀ x,noRefL (f x)=true):∀ l:List α,noRefLL (l.map f)=true
 | []=>rfl
 | x::l=>by simp [noRefLL,h x,noRefLL_map f h l]
@[simp] theorem noRef_eRows (nl:Bool) (l:List Row):noRef (eRows nl l)=true:=by simp [eRows,noRef,noRefLL_map eRow noRefL_eRow l]
@[simp] theorem noRef_eNds (nl:Bool) (l:List Nd):noRef (eNds nl l)=true:=by simp [eNds,noRef,noRefLL_map eNd noRefL_eNd l]
@[simp] theorem noRef_eB (nl nl':Bool) (ord:List Row) (ns:List Nd) (root:Int):noRef (eB nl nl' ord ns root)=true:=by simp [eB,noRef,noRefL]
@[simp] theorem noRef_row (r:Row):noRef (.agg (eRow r))=true:=(rfl)
@[simp] theorem noRef_nd (r:Nd):noRef (.agg (eNd r))=true:=(rfl)
@[simp] theorem strip_eRows (nl:Bool) (l:List Row):strip (eRows nl l)=eRows nl l:=(rfl)
@[simp] theorem strip_eNds (nl:Bool) (l:List Nd):strip (eNds nl l)=eNds nl l:=(rfl)
@[simp] theorem strip_eB (nl nl':Bool) (ord:List Row) (ns:List Nd) (root:Int):strip (eB nl nl' ord ns root)=eB nl nl' ord ns root:=(rfl)
@[simp] theorem strip_row (r:Row):strip (.agg (eRow r)) = .agg (eRow r):=(rfl)
@[simp] theorem strip_nd (r:Nd):strip (.agg (eNd r)) = .agg (eNd r):=(rfl)
@[simp] theorem strip_i (k:IntKind) (n:Int):strip (.i k n) = .i k n:=(rfl)
@[simp] theorem strip_b (n:Bool):strip (.b n) = .b n:=(rfl)
@[simp] theorem stripT_eRows (nl:Bool) (l:List Row):stripT (eRows nl l)=eRows nl l:=(rfl)
@[simp] theorem stripT_eNds (nl:Bool) (l:List Nd):stripT (eNds nl l)=eNds nl l:=(rfl)
@[simp] theorem stripT_eB (nl nl':Bool) (ord:List Row) (ns:List Nd) (root:Int):stripT (eB nl nl' ord ns root)=eB nl nl' ord ns root:=(rfl)
@[simp] theorem stripT_i (k:IntKind) (n:Int):stripT (.i k n) = .i k n:=(rfl)
@[simp] theorem stripT_b (n:Bool):stripT (.b n) = .b n:=(rfl)
@[simp] theorem noRef_i (k:IntKind) (n:Int):noRef (.i k n)=true:=(rfl)
@[simp] theorem noRef_b (n:Bool):noRef (.b n)=true:=(rfl)
theorem wrap64 {n:Int} (h:in64 n):IntKind.wrap .i64 n=n:=by
 obtain ⟨h1,h2⟩:=h
 rcases Int.lt_or_le n 0 with h | h
 ·have e:n % 18446744073709551616=n+18446744073709551616:=by omega
  simp [IntKind.wrap,IntKind.signed,IntKind.bits,e]
  omega
 ·have e:n % 18446744073709551616=n:=by omega
  simp [IntKind.wrap,IntKind.signed,IntKind.bits,e]
  omega
theorem lenD_rows (nl:Bool) (l:List Row):lenD false (eRows nl l)=some (.i .i64 l.length):=by simp [eRows,lenD]
theorem lenD_nds (nl:Bool) (l:List Nd):lenD false (eNds nl l)=some (.i .i64 l.length):=by simp [eNds,lenD]
theorem iaD_rows {nl:Bool} {l:List Row} {n:Nat} {r:Row} (k:IntKind) (h:l[n]? = some r):iaD 2 (eRows nl l) (.i k n)=some (.el (eRow r) 0):=by simp [eRows,iaD,h]
theorem iaD_nds {nl:Bool} {l:List Nd} {n:Nat} {r:Nd} (k:IntKind) (h:l[n]? = some r):iaD 3 (eNds nl l) (.i k n)=some (.el (eNd r) 0):=by simp [eNds,iaD,h]
theorem iaD_nds' {nl:Bool} {l:List Nd} {n:Int} {r:Nd} (k:IntKind) (h0:0≤n) (h:l[n.toNat]? = some r):iaD 3 (eNds nl l) (.i k n)=some (.el (eNd r) 0):=by simp [eNds,iaD,h,h0]
@[simp] theorem ldD_el_row (S:Store) (r:Row):ldD S 2 true (.el (eRow r) 0)=some (.agg (eRow r)):=by simp [ldD,rdK,eRow]
@[simp] theorem ldD_el_nd (S:Store) (r:Nd):ldD S 3 true (.el (eNd r) 0)=some (.agg (eNd r)):=by simp [ldD,rdK,eNd]
theorem seqL_row (r s:Row):seqL [.i,.i] (eRow r) (eRow s)=some (decide (r=s)):=by
 have:decide (r=s)=(r.1 == s.1&&r.2 == s.2):=by
  rw [Bool.eq_iff_iff];simp [Prod.ext_iff]
 simp [eRow,seqL,isSK,seq1,this]
theorem seqL_nd (r s:Nd):seqL [.i,.i,.i] (eNd r) (eNd s)=some (decide (r=s)):=by
 have:decide (r=s)=(r.1 == s.1&&(r.2.1 == s.2.1&&r.2.2 == s.2.2)):=by
  rw [Bool.eq_iff_iff];simp [Prod.ext_iff]
 simp [eNd,seqL,isSK,seq1,this]
theorem isKey_row (r:Row):isKey (.agg [.i,.i]) (.agg (eRow r))=true:=rfl
theorem isKey_nd (r:Nd):isKey (.agg [.i,.i,.i]) (.agg (eNd r))=true:=rfl
section
variable (k:IntKind) (a b:Int) (S:Store) (cs:List D) (id o p:Nat) (K:D→Store→Prop)
def ldE:Option Ent→Nat→Bool→Nat→Option D
 | some (.box cs),k,g,o=>rdK cs o k g
 | _,_,_,_=>none
@[simp] theorem ldD_bx (k:Nat) (g:Bool):ldD S k g (.bx id o)=ldE (sget S id) k g o:=by
 simp only [ldD,ldE]
 cases sget S id with
 | none=>rfl
 | some e=>cases e <;> rfl
@[simp] theorem ldE_box (k:Nat) (g:Bool):ldE (some (.box cs)) k g o=rdK cs o k g:=(rfl)
@[simp] theorem ldD_el (k:Nat) (g:Bool):ldD S k g (.el cs o)=rdK cs o k g:=(rfl)
@[simp] theorem rdK_one (k:Nat):rdK cs o k false=cs[o]?:=(rfl)
theorem rdK_all {cs:List D} {k:Nat} (h:cs.length=k):rdK cs 0 k true=some (.agg cs):=by
 subst h;simp [rdK]
@[simp] theorem rdK_row (r:Row):rdK (eRow r) 0 2 true=some (.agg (eRow r)):=rdK_all rfl
@[simp] theorem rdK_nd (r:Nd):rdK (eNd r) 0 3 true=some (.agg (eNd r)):=rdK_all rfl
@[simp] theorem rdK_lit1 (x:D):rdK [x] 0 1 true=some (.agg [x]):=(rfl)
@[simp] theorem rdK_lit2 (x y:D):rdK [x,y] 0 2 true=some (.agg [x,y]):=(rfl)
@[simp] theorem rdK_lit3 (x y z:D):rdK [x,y,z] 0 3 true=some (.agg [x,y,z]):=(rfl)
@[simp high] theorem row_0 (r:Row):(eRow r)[0]? = some (.i .i64 r.1):=(rfl)
@[simp high] theorem row_1 (r:Row):(eRow r)[1]? = some (.i .i64 r.2):=(rfl)
@[simp high] theorem nd_0 (r:Nd):(eNd r)[0]? = some (.i .i64 r.1):=(rfl)
@[simp high] theorem nd_1 (r:Nd):(eNd r)[1]? = some (.i .i64 r.2.1):=(rfl)
@[simp high] theorem nd_2 (r:Nd):(eNd r)[2]? = some (.i .i64 r.2.2):=(rfl)
@[simp] theorem row_len (r:Row):(eRow r).length=2:=(rfl)
@[simp] theorem nd_len (r:Nd):(eNd r).length=3:=(rfl)
@[simp] theorem allCell_row (r:Row):allCell (eRow r)=true:=(rfl)
@[simp] theorem allCell_nd (r:Nd):allCell (eNd r)=true:=(rfl)
@[simp] theorem isCell_rows (nl:Bool) (l:List Row):isCell (eRows nl l)=true:=(rfl)
@[simp] theorem isCell_nds (nl:Bool) (l:List Nd):isCell (eNds nl l)=true:=(rfl)
@[simp] theorem isCell_i:isCell (.i k a)=true:=(rfl)
@[simp] theorem isCell_b (c:Bool):isCell (.b c)=true:=(rfl)
@[simp] theorem isCell_bx:isCell (.bx id o)=true:=(rfl)
@[simp] theorem isCell_mp:isCell (.mp id)=true:=(rfl)
@[simp] theorem isCell_fn:isCell (.fn id cs)=true:=(rfl)
@[simp] theorem isCell_nilm:isCell .nilm=true:=(rfl)
@[simp] theorem isCell_sl (k:Nat) (n:Bool) (xs:List (List D)) (o:Own):isCell (.sl k n xs o)=true:=(rfl)
@[simp] theorem allCell_nil:allCell []=true:=(rfl)
@[simp] theorem allCell_cons (x:D):allCell (x::cs)=(isCell x&&allCell cs):=(rfl)
@[simp] theorem faD_bx:faD o (.bx id p)=some (.bx id (p+o)):=(rfl)
@[simp] theorem faD_el:faD o (.el cs p)=some (.el cs (p+o)):=(rfl)
theorem cellsK_agg {cs:List D} {k:Nat} (h:cs.length=k) (h':allCell cs=true):cellsK k true (.agg cs)=some cs:=by simp [cellsK,h,h']
@[simp] theorem cellsK_row (r:Row):cellsK 2 true (.agg (eRow r))=some (eRow r):=(rfl)
@[simp] theorem cellsK_nd (r:Nd):cellsK 3 true (.agg (eNd r))=some (eNd r):=(rfl)
@[simp] theorem cellsK_eB (nl nl':Bool) (ord:List Row) (ns:List Nd) (root:Int):cellsK 3 true (eB nl nl' ord ns root)=some [eRows nl ord,eNds nl' ns,.i .i64 root]:=(rfl)
@[simp] theorem cellsK_i (m:Nat):cellsK m false (.i k a)=some [.i k a]:=(rfl)
@[simp] theorem cellsK_b (m:Nat) (c:Bool):cellsK m false (.b c)=some [.b c]:=(rfl)
@[simp] theorem cellsK_bx (m:Nat):cellsK m false (.bx id o)=some [.bx id o]:=(rfl)
@[simp] theorem cellsK_mp (m:Nat):cellsK m false (.mp id)=some [.mp id]:=(rfl)
@[simp] theorem cellsK_fn (m:Nat):cellsK m false (.fn id cs)=some [.fn id cs]:=(rfl)
@[simp] theorem cellsK_rows (m:Nat) (nl:Bool) (l:List Row):cellsK m false (eRows nl l)=some [eRows nl l]:=(rfl)
@[simp] theorem cellsK_nds (m:Nat) (nl:Bool) (l:List Nd):cellsK m false (eNds nl l)=some [eNds nl l]:=(rfl)
@[simp] theorem cellsK_sl (m k:Nat) (n:Bool) (xs:List (List D)) (o:Own):cellsK m false (.sl k n xs o)=some [.sl k n xs o]:=(rfl)
@[simp] theorem cellsK_lit3 (x y z:D) (hx:isCell x=true) (hy:isCell y=true) (hz:isCell z=true):cellsK 3 true (.agg [x,y,z])=some [x,y,z]:=cellsK_agg rfl (by simp [hx,hy,hz])
@[simp] theorem cellsK_lit2 (x y:D) (hx:isCell x=true) (hy:isCell y=true):cellsK 2 true (.agg [x,y])=some [x,y]:=cellsK_agg rfl (by simp [hx,hy])
@[simp] theorem bxx_eq (k:Nat) (g:Bool) (x:D):bxx k g x S K=OX (cellsK k g x) fun cs=>K (.bx S.length 0) (.box cs::S):=(rfl)
@[simp] theorem al_eq (z:List D):al z S K=K (.bx S.length 0) (.box z::S):=(rfl)
@[simp] theorem mm_eq:mm S K=K (.mp S.length) (.map []::S):=(rfl)
@[simp] theorem bin_geq:binD .geq .num (.i k a) (.i k b)=some (.b (decide (b≤a))):=by simp [binD,intOp]
@[simp] theorem bin_leq:binD .leq .num (.i k a) (.i k b)=some (.b (decide (a≤b))):=by simp [binD,intOp]
@[simp] theorem bin_lss:binD .lss .num (.i k a) (.i k b)=some (.b (decide (a<b))):=by simp [binD,intOp]
@[simp] theorem bin_gtr:binD .gtr .num (.i k a) (.i k b)=some (.b (decide (b<a))):=by simp [binD,intOp]
@[simp] theorem bin_eql:binD .eql .num (.i k a) (.i k b)=some (.b (decide (a=b))):=by
 simp only [binD,intOp,if_true];congr 2
@[simp] theorem bin_neq:binD .neq .num (.i k a) (.i k b)=some (.b (!decide (a=b))):=by
 simp only [binD,intOp,if_true];congr 2
@[simp] theorem bin_add:binD .add .num (.i k a) (.i k b)=some (.i k (k.wrap (a+b))):=by simp [binD,intOp]
@[simp] theorem bin_sub:binD .sub .num (.i k a) (.i k b)=some (.i k (k.wrap (a-b))):=by simp [binD,intOp]
@[simp] theorem bin_beql (c d:Bool):binD .eql .bool (.b c) (.b d)=some (.b (c == d)):=(rfl)
@[simp] theorem bin_bneq (c d:Bool):binD .neq .bool (.b c) (.b d)=some (.b (!(c == d))):=(rfl)
@[simp] theorem bin_eql_row (r s:Row):binD .eql (.agg [.i,.i]) (.agg (eRow r)) (.agg (eRow s))=some (.b (decide (r=s))):=by simp only [binD,seqL_row,eqD]
@[simp] theorem bin_neq_row (r s:Row):binD .neq (.agg [.i,.i]) (.agg (eRow r)) (.agg (eRow s))=some (.b (!decide (r=s))):=by simp only [binD,seqL_row,eqD]
@[simp] theorem bin_eql_nd (r s:Nd):binD .eql (.agg [.i,.i,.i]) (.agg (eNd r)) (.agg (eNd s))=some (.b (decide (r=s))):=by simp only [binD,seqL_nd,eqD]
@[simp] theorem bin_neq_nd (r s:Nd):binD .neq (.agg [.i,.i,.i]) (.agg (eNd r)) (.agg (eNd s))=some (.b (!decide (r=s))):=by simp only [binD,seqL_nd,eqD]
@[simp] theorem bin_nil_rows (nl:Bool) (l:List Row) (m:Nat) (o:Own):binD .eql .sl (eRows nl l) (.sl m true [] o)=some (.b nl):=(rfl)
@[simp] theorem bin_nil_nds (nl:Bool) (l:List Nd) (m:Nat) (o:Own):binD .eql .sl (eNds nl l) (.sl m true [] o)=some (.b nl):=(rfl)
@[simp] theorem bin_mapnil:binD .eql .map (.mp id) .nilm=some (.b false):=(rfl)
@[simp] theorem bin_nilmap:binD .eql .map .nilm .nilm=some (.b true):=(rfl)
@[simp] theorem un_not (c:Bool):unD .not (.b c)=some (.b (!c)):=(rfl)
@[simp] theorem pick_t (x y:D):pickD (.b true) x y=some x:=(rfl)
@[simp] theorem pick_f (x y:D):pickD (.b false) x y=some y:=(rfl)
@[simp] theorem ext_eq (j:Nat):extD (.tup cs) j=cs[j]?:=(rfl)
@[simp] theorem fnD_fn:fnD (.fn id cs)=some (id,cs):=(rfl)
@[simp] theorem lenD_rows' (nl:Bool) (l:List Row):lenD false (eRows nl l)=some (.i .i64 l.length):=lenD_rows nl l
@[simp] theorem lenD_nds' (nl:Bool) (l:List Nd):lenD false (eNds nl l)=some (.i .i64 l.length):=lenD_nds nl l
@[simp] theorem lenD_sl (k:Nat) (n:Bool) (xs:List (List D)) (o:Own):lenD false (.sl k n xs o)=some (.i .i64 xs.length):=(rfl)
@[simp] theorem cellsV_nil (k:Nat) (g:Bool):cellsV k g []=some []:=(rfl)
@[simp] theorem cellsV_nd (r:Nd):cellsV 3 true [.agg (eNd r)]=some [eNd r]:=(rfl)
@[simp] theorem cellsV_row (r:Row):cellsV 2 true [.agg (eRow r)]=some [eRow r]:=(rfl)
@[simp] theorem cellsV_i:cellsV 1 false [.i k a]=some [[.i k a]]:=(rfl)
@[simp] theorem cellsV_b (c:Bool):cellsV 1 false [.b c]=some [[.b c]]:=(rfl)
@[simp] theorem bslO_nil (k:Nat):bslO k [] S=(.sl k false [] .cap0,S):=(rfl)
theorem app_cap0 {k:Nat} {n n':Bool} {ys:List (List D)} {o:Own} (h:ys.length≤maxLenD):appD k false (.sl k n [] .cap0) (.sl k n' ys o) S=some (if ys=[] then (.sl k n [] .cap0,S) else (.sl k false ys (.tok S.length),.tok true::S)):=by
 simp only [appD,List.length_nil,Nat.zero_add,h,and_self,true_or,if_true]
 cases ys <;> rfl
theorem app_nil {k:Nat} {n':Bool} {ys:List (List D)} {o o':Own} (h:ys.length≤maxLenD) (ho:∀ t,o ≠ .tok t):appD k false (.sl k true [] o) (.sl k n' ys o') S=some (if ys=[] then (.sl k true [] o,S) else (.sl k false ys (.tok S.length),.tok true::S)):=by
 simp only [appD,List.length_nil,Nat.zero_add,h,and_self,true_or,if_true]
 cases o with
 | tok t=>exact absurd rfl (ho t)
 | ro=>cases ys <;> rfl
 | cap0=>cases ys <;> rfl
theorem app_tok {k:Nat} {n':Bool} {xs ys:List (List D)} {o':Own} {t:Nat} (h:xs.length+ys.length≤maxLenD) (hs:sget S t=some (.tok true)):appD k false (.sl k false xs (.tok t)) (.sl k n' ys o') S=some (.sl k false (xs++ys) (.tok S.length),.tok true::sset S t (.tok false)):=by
 simp only [appD,h,and_self,true_or,if_true,hs]
 rfl
def stE:Option Ent→Store→Nat→Nat→Bool→Nat→D→Option Store
 | some (.box cs),S,id,k,g,o,v=>match cellsK k g v with
  | some l=>if o+k≤cs.length then some (sset S id (.box (splice cs o l))) else none
  | none=>none
 | _,_,_,_,_,_,_=>none
@[simp] theorem stD_bx (k:Nat) (g:Bool) (v:D):stD S k g (.bx id o) v=stE (sget S id) S id k g o v:=by
 simp only [stD,stE]
 cases sget S id with
 | none=>rfl
 | some e=>cases e <;> rfl
@[simp] theorem stE_box' (k:Nat) (g:Bool) (v:D):stE (some (.box cs)) S id k g o v=(cellsK k g v).bind fun l=>if o+k≤cs.length then some (sset S id (.box (splice cs o l))) else none:=by
 simp only [stE]
 cases cellsK k g v <;> rfl
@[simp] theorem splice_nil:splice cs o []=cs:=(rfl)
@[simp] theorem splice_cons (x:D) (l:List D):splice cs o (x::l)=splice (fset cs o x) (o+1) l:=(rfl)
@[simp] theorem fset_zero (x y:D):fset (x::cs) 0 y=y::cs:=(rfl)
@[simp] theorem fset_succ (x y:D) (n:Nat):fset (x::cs) (n+1) y=x::fset cs n y:=(rfl)
@[simp] theorem splice_row (x y:D) (r:Row):splice [x,y] 0 (eRow r)=eRow r:=(rfl)
@[simp] theorem splice_nd (x y z:D) (r:Nd):splice [x,y,z] 0 (eNd r)=eNd r:=(rfl)
theorem cellsK_cell {v:D} (h:isCell v=true) (k:Nat):cellsK k false v=some [v]:=by simp [cellsK,h]
@[simp high] theorem stE1_0 (x v:D) (h:isCell v=true):stE (some (.box [x])) S id 1 false 0 v=some (sset S id (.box [v])):=by simp [cellsK_cell h]
@[simp high] theorem stE2_0 (x y v:D) (h:isCell v=true):stE (some (.box [x,y])) S id 1 false 0 v=some (sset S id (.box [v,y])):=by simp [cellsK_cell h]
@[simp high] theorem stE2_1 (x y v:D) (h:isCell v=true):stE (some (.box [x,y])) S id 1 false 1 v=some (sset S id (.box [x,v])):=by simp [cellsK_cell h]
@[simp high] theorem stE3_0 (x y z v:D) (h:isCell v=true):stE (some (.box [x,y,z])) S id 1 false 0 v=some (sset S id (.box [v,y,z])):=by simp [cellsK_cell h]
@[simp high] theorem stE3_1 (x y z v:D) (h:isCell v=true):stE (some (.box [x,y,z])) S id 1 false 1 v=some (sset S id (.box [x,v,z])):=by simp [cellsK_cell h]
@[simp high] theorem stE3_2 (x y z v:D) (h:isCell v=true):stE (some (.box [x,y,z])) S id 1 false 2 v=some (sset S id (.box [x,y,v])):=by simp [cellsK_cell h]
@[simp] theorem stripL_nil:stripL []=[]:=(rfl)
@[simp] theorem stripL_cons (x:D):stripL (x::cs)=strip x::stripL cs:=(rfl)
@[simp] theorem stripT_tup:stripT (.tup cs) = .tup (stripL cs):=(rfl)
@[simp] theorem sget_cons (e:Ent):sget (e::S) id=if id=S.length then some e else sget S id:=(rfl)
@[simp] theorem sset_cons (e x:Ent):sset (e::S) id x=if id=S.length then x::S else e::sset S id x:=(rfl)
end
theorem oeq_self (o:Own):oeq o o=true:=by cases o <;> simp [oeq]
mutual
theorem deq_self:∀ d:D,deq d d=true
 | .top=>rfl
 | .b x=>by simp [deq]
 | .i k n=>by simp [deq]
 | .s l=>by simp [deq]
 | .sl k n xs o=>by simp [deq,oeq_self,deqLL_self xs]
 | .agg cs=>by simp [deq,deqL_self cs]
 | .tup cs=>by simp [deq,deqL_self cs]
 | .bx a b=>by simp [deq]
 | .el cs o=>by simp [deq,deqL_self cs]
 | .ar a b c d=>by simp [deq]
 | .nilp=>rfl
 | .nilm=>rfl
 | .mp a=>by simp [deq]
 | .fn g cs=>by simp [deq,deqL_self cs]
theorem deqL_self:∀ l:List D,deqL l l=true
 | []=>rfl
 | x::l=>by simp [deqL,deq_self x,deqL_self l]
theorem deqLL_self:∀ l:List (List D),deqLL l l=true
 | []=>rfl
 | x::l=>by simp [deqLL,deqL_self x,deqLL_self l]
end
attribute [simp] deq_self
def assoc {α β:Type} [DecidableEq α] (a:α):List (α × β)→Option β
 | []=>none
 | (k,v)::es=>if a=k then some v else assoc a es
theorem assoc_none {α β:Type} [DecidableEq α] {a:α}:∀ {es:List (α × β)},assoc a es=none↔∀ p,p∈es→p.1≠a
 | []=>by simp [assoc]
 | (k,v)::es=>by
  simp only [assoc]
  split
  ·rename_i h
   simp only [List.mem_cons,reduceCtorEq,false_iff]
   intro q
   exact q (k,v) (Or.inl rfl) h.symm
  ·rename_i h
   rw [assoc_none]
   constructor
   ·intro q p hp
    rcases List.mem_cons.1 hp with hp | hp
    ·subst hp;exact fun e=>h e.symm
    ·exact q p hp
   ·exact fun q p hp=>q p (List.mem_cons_of_mem _ hp)
theorem assoc_app {α β:Type} [DecidableEq α] (a:α) (fs:List (α × β)):∀ es:List (α × β),assoc a (es++fs)=match assoc a es with | some v=>some v | none=>assoc a fs
 | []=>rfl
 | (k,v)::es=>by
  simp only [List.cons_append,assoc]
  split
  ·rfl
  ·exact assoc_app a fs es
def KeyE {α:Type} [DecidableEq α] (kk:KK) (ek:α→D):Prop:=∀ a b,keq kk (ek a) (ek b)=some (decide (a=b))
theorem keyE_row:KeyE (.agg [.i,.i]) (fun r:Row=>.agg (eRow r)):=fun a b=>by simp only [keq];exact seqL_row a b
theorem keyE_nd:KeyE (.agg [.i,.i,.i]) (fun r:Nd=>.agg (eNd r)):=fun a b=>by simp only [keq];exact seqL_nd a b
theorem keyE_i:KeyE (.one .i) (fun r:Int=>.i .i64 r):=fun a b=>by
 simp only [keq,isSK,seq1,Bool.and_self,if_true]
 congr 1
section
variable {α β:Type} [DecidableEq α] {kk:KK} {ek:α→D} {ev:β→D}
def eMap (ek:α→D) (ev:β→D) (es:List (α × β)):List (D × D):=es.map fun p=>(ek p.1,ev p.2)
theorem lkD_map (h:KeyE kk ek) (a:α):∀ es:List (α × β),lkD kk (ek a) (eMap ek ev es)=some ((assoc a es).map ev)
 | []=>rfl
 | (k,v)::es=>by
  simp only [eMap,List.map_cons,lkD,h a k,assoc]
  by_cases e:a=k
  ·simp [e]
  ·simp only [e,decide_false,if_false]
   exact lkD_map h a es
theorem muD_new (h:KeyE kk ek) (a:α) (b:β):∀ es:List (α × β),assoc a es=none→muD kk (ek a) (ev b) (eMap ek ev es)=some (eMap ek ev (es++[(a,b)]))
 | [],_=>rfl
 | (k,v)::es,q=>by
  simp only [assoc] at q
  split at q
  ·cases q
  ·rename_i e
   have:=muD_new h a b es q
   simp only [eMap] at this
   simp only [eMap,List.map_cons,muD,h a k,e,decide_false,this,List.cons_append,Option.map_some]
theorem lkD'_mp (h:KeyE kk ek) {a:α} (hk:isKey kk (ek a)=true) {S:Store} {id:Nat} {es:List (α × β)} (hS:sget S id=some (.map (eMap ek ev es))) (ok:Bool) (z:D) :
  lkD' kk ok z S (.mp id) (ek a)=some (okD ok z ((assoc a es).map ev)):=by
 simp only [lkD',hk,if_true,hS,lkD_map h,Option.map_some]
theorem muD'_new (h:KeyE kk ek) {a:α} {b:β} (hk:isKey kk (ek a)=true) {S:Store} {id:Nat} {es:List (α × β)} (hS:sget S id=some (.map (eMap ek ev es))) (ha:assoc a es=none) :
  muD' kk S (.mp id) (ek a) (ev b)=some (sset S id (.map (eMap ek ev (es++[(a,b)])))):=by
 simp only [muD',hk,if_true,hS,muD_new h a b es ha,Option.map_some]
end
@[simp] theorem okD_tn (z:D):okD true z none = .tup [z,.b false]:=(rfl)
@[simp] theorem okD_ts (z v:D):okD true z (some v) = .tup [v,.b true]:=(rfl)
@[simp] theorem okD_fn (z:D):okD false z none=z:=(rfl)
@[simp] theorem okD_fs (z v:D):okD false z (some v)=v:=(rfl)
end Go.Proofs.YtjlmeikcfdanmaaGreatDoor.DE.V

namespace Go.Proofs.YtjlmeikcfdanmaaGreatDoor.DE.V
open Go Go.ChangeShapes Go.WideShapes Go.RowKit
set_option maxRecDepth 100000
def there (w:World):Fix:=fun b o=>∃ v,w.cell? ⟨b,o,none⟩=some v
theorem sim0 {dp:Nat→Option Fn} (w:World):Sim dp (there w) [] w []:=
 ⟨rfl,fun _ _ h=>h,fun _ _ _ h=>by (cases h),fun _ _ _ _ _ _ _ h=>by (cases h)⟩
section
variable {H:Type} {enc:TypeId × Value→H} {w:World} {base:Nat} {spare:Nat→Bool} {held:Bool} {fuel:Nat} {cs:List Value} {x:DataW H × List MemPlace}
theorem wf64 {n:Int} (h:(Lit.int .i64 n).wf=true):in64 n:=by
 simp only [Lit.wf,Bool.and_eq_true,decide_eq_true_eq] at h
 exact h
theorem rd_int (h:DataW.trod enc Tryz.prog w base spare held fuel 3 cs=some x):∃ n,cs=[.int .i64 n]∧in64 n:=by
 obtain ⟨n,h1,_,h2⟩:=DataW.trod_int Tryz.underlying3 h
 exact ⟨n,h1,wf64 h2⟩
theorem cells27:Tryz.prog.cellsOf 27=2:=by kernel_rfl
theorem cells3:Tryz.prog.cellsOf 3=1:=by kernel_rfl
def vRow (r:Row):List Value:=[.int .i64 r.1,.int .i64 r.2]
theorem rd_row (h:DataW.trod enc Tryz.prog w base spare held fuel 27 cs=some x):∃ r:Row,cs=vRow r∧okRow r:=by
 obtain ⟨y0,y1,n,_,hl,h0,h1⟩:=trod_struct2 Tryz.underlying27 h
 rw [cells27] at hl
 simp only [cells3] at h0 h1
 match cs,hl with
 | [a,b],_=>
  obtain ⟨n0,e0,w0⟩:=rd_int h0
  obtain ⟨n1,e1,w1⟩:=rd_int h1
  simp at e0 e1
  subst e0 e1
  exact ⟨(n0,n1),rfl,w0,w1⟩
theorem rd_slice {t e k:Nat} {α:Type} [Inhabited α] {dp:Nat→Option Fn} (en:α→List D) (vals:α→List Value) (P:α→Prop) (ht:Tryz.prog.underlying t=some (.slice e)) (hk:Tryz.prog.cellsOf e=k)
  (hen:∀ a,(en a).length=k) (hvl:∀ a,(vals a).length=k)
  (helem:∀ (n:Nat) (sp:Nat→Bool) (cs:List Value) (x:DataW H × List MemPlace),DataW.trod enc Tryz.prog w base sp held n e cs=some x→∃ a,cs=vals a∧P a)
  (hrel:∀ (a:α) (m:Nat) (v:Value) (d:D),(vals a)[m]? = some v→(en a)[m]? = some d→v.oneCell'=true∧Rel dp (there w) [] w v d)
  (h:DataW.trod enc Tryz.prog w base spare held fuel t cs=some x) (hsp:∀ a l c,cs=[.slice (some a) l c]→a.spot=none) :
  ∃ nl l v,(nl=true→l=[])∧(∀ a∈l,P a)∧l.length≤maxLen∧cs=[v]∧v.oneCell'=true∧Rel dp (there w) [] w v (.sl k nl (l.map en) .ro):=by
 rcases Go.Deep.open_slice ht h with ⟨rfl,_⟩ | ⟨a,len,cap,m,n,D',Pl,rfl,hb,hl,hm,hmm,_,hx⟩
 ·exact ⟨true,[],_,fun _=>rfl,fun _ h=>by (cases h),Nat.zero_le _,rfl,rfl,.nil k .ro⟩
 ·have hspot:=hsp a len cap rfl
  have hlm:len≤m:=by rw [hmm];split <;> omega
  obtain ⟨f,hf⟩:=Go.Deep.choose_lt (α:=α) (n:=len) (p:=fun i y=>w.cells? base (a.add (i * Tryz.prog.cellsOf e)) (Tryz.prog.cellsOf e)=some (vals y)∧P y) (fun i hi=>by
   obtain ⟨cs',h1,h2⟩:=hx i (by omega)
   obtain ⟨y,e1,e2⟩:=helem _ _ _ _ h2
   exact ⟨y,e1 ▸ h1,e2⟩)
  obtain ⟨blk,off,spot⟩:=a
  simp only at hspot
  subst hspot
  have hadd:∀ i j,((Addr.mk blk off none).add i).add j=⟨blk,off+i+j,none⟩:=by
   intro i j
   unfold Addr.add
   by_cases hi:i=0 <;> by_cases hj:j=0 <;> simp [hi,hj,Nat.add_assoc]
  have hcell:∀ i,i<len→∀ j,j<k→w.cell? ⟨blk,off+i * k+j,none⟩=(vals (f i))[j]?:=by
   intro i hi j hj
   obtain ⟨h1,_⟩:=hf i hi
   rw [hk] at h1
   obtain ⟨_,_,h3⟩:=World.cells?_some h1
   have:=h3 j hj
   rwa [hadd] at this
  refine ⟨false,(List.range len).map f,_,fun h=>by (cases h),?_,by simp;omega,rfl,rfl,?_⟩
  ·intro y hy
   obtain ⟨i,hi,rfl⟩:=List.mem_map.1 hy
   exact (hf i (List.mem_range.1 hi)).2
  ·have hlen:((List.range len).map f).map en=(List.range len).map fun i=>en (f i):=by rw [List.map_map];rfl
   rw [hlen]
   have hget:∀ (j:Nat) (y:List D),((List.range len).map fun i=>en (f i))[j]? = some y→j<len∧y=en (f j):=by
    intro j y hj
    rw [List.getElem?_map] at hj
    by_cases hjl:j<len
    ·rw [List.getElem?_range hjl] at hj
     simp at hj
     exact ⟨hjl,hj.symm⟩
    ·rw [List.getElem?_eq_none (by simp;omega)] at hj
     cases hj
   have key:=Rel.sl (dp:=dp) (F:=there w) (G:=[]) (w:=w) k ((List.range len).map fun i=>en (f i)) .ro blk off cap (fun j m=>((vals (f j))[m]?).getD .nilIface)
    (by intro y hy;obtain ⟨i,_,rfl⟩:=List.mem_map.1 hy;exact hen _) (by simpa using hl)
    (by
     intro j y m d hj hd
     obtain ⟨hjl,rfl⟩:=hget j y hj
     have hmk:m<k:=by
      rcases Nat.lt_or_ge m k with q | q
      ·exact q
      ·rw [List.getElem?_eq_none (by rw [hen];exact q)] at hd;cases hd
     obtain ⟨v,hv⟩:∃ v,(vals (f j))[m]? = some v:=⟨_,List.getElem?_eq_getElem (by rw [hvl];exact hmk)⟩
     have hc:=hcell j hjl m hmk
     rw [hv] at hc ⊢
     exact ⟨⟨v,hc⟩,hc,(hrel _ _ _ _ hv hd).1⟩)
    (by
     intro j y m d hj hd
     obtain ⟨hjl,rfl⟩:=hget j y hj
     have hmk:m<k:=by
      rcases Nat.lt_or_ge m k with q | q
      ·exact q
      ·rw [List.getElem?_eq_none (by rw [hen];exact q)] at hd;cases hd
     obtain ⟨v,hv⟩:∃ v,(vals (f j))[m]? = some v:=⟨_,List.getElem?_eq_getElem (by rw [hvl];exact hmk)⟩
     simp only [hv,Option.getD_some]
     exact (hrel _ _ _ _ hv hd).2)
    trivial
   simpa using key
theorem rel_row {dp:Nat→Option Fn} (a:Row) (m:Nat) (v:Value) (d:D) (h1:(vRow a)[m]? = some v) (h2:(eRow a)[m]? = some d):v.oneCell'=true∧Rel dp (there w) [] w v d:=by
 match m with
 | 0=>simp [vRow] at h1;simp at h2;subst h1 h2;exact ⟨rfl,.i _ _⟩
 | 1=>simp [vRow] at h1;simp at h2;subst h1 h2;exact ⟨rfl,.i _ _⟩
 | m+2=>simp [vRow] at h1
theorem rd_rows {dp:Nat→Option Fn} (h:DataW.trod enc Tryz.prog w base spare held fuel 22 cs=some x) (hsp:∀ a l c,cs=[.slice (some a) l c]→a.spot=none) :
  ∃ nl l v,(nl=true→l=[])∧(∀ a∈l,okRow a)∧l.length≤maxLen∧cs=[v]∧v.oneCell'=true∧Rel dp (there w) [] w v (eRows nl l):=
 rd_slice eRow vRow okRow Tryz.underlying22 cells27 (fun _=>rfl) (fun _=>rfl) (fun _ _ _ _ h=>rd_row h) (fun a m v d=>rel_row a m v d) h hsp
theorem spot_of {r:Reach} {b0:Nat} {t e:TypeId} {v:Value} (ht:Tryz.prog.underlying t=some (.slice e)) (h:Cell.okWide Tryz.prog w r b0 t v):∀ a l c,v = .slice (some a) l c→a.spot=none:=by
 rintro a l c rfl
 simp only [Cell.okWide,ht,Cell.ok] at h
 exact h.2.2.2.1
theorem rd_rowsArg {dp:Nat→Option Fn} {r:Reach} {b0:Nat} {v:Value} {d:DataW H} {ps:List MemPlace} (hv:Value.okWide Tryz.prog w r b0 22 v) (h:DataW.Trod enc Tryz.prog w base spare held 22 v d ps) :
  ∃ nl ord,(nl=true→ord=[])∧(∀ a∈ord,okRow a)∧ord.length≤maxLen∧Rel dp (there w) [] w v (eRows nl ord):=by
 obtain ⟨fuel,h⟩:=h
 simp only [Value.okWide,Tryz.underlying22] at hv
 have hs:=spot_of Tryz.underlying22 hv
 have hc:v.cells.toList=[v]:=by
  cases v <;> first | rfl | (simp only [Cell.okWide,Tryz.underlying22,Cell.ok] at hv)
 rw [hc] at h
 obtain ⟨nl,ord,va,g1,g2,g3,e1,_,r1⟩:=rd_rows (dp:=dp) h (fun a l c e=>hs a l c (by injection e))
 injection e1 with e1
 subst e1
 exact ⟨nl,ord,g1,g2,g3,r1⟩
theorem rd_intArg {dp:Nat→Option Fn} {r:Reach} {b0:Nat} {v:Value} {d:DataW H} {ps:List MemPlace} (hv:Value.okWide Tryz.prog w r b0 3 v) (h:DataW.Trod enc Tryz.prog w base spare held 3 v d ps) :
  ∃ a:Int,in64 a∧Rel dp (there w) [] w v (.i .i64 a):=by
 obtain ⟨a,rfl,_,_,h1⟩:=open_int Tryz.underlying3 hv h
 exact ⟨a,wf64 h1,.i .i64 a⟩
end
end Go.Proofs.YtjlmeikcfdanmaaGreatDoor.DE.V

namespace Go.Proofs.YtjlmeikcfdanmaaGreatDoor.DE.V
open Go
structure Vl where
 kind:Int
 int:Int
 text:List UInt8
structure Fc (α:Type) where
 kind:Int
 row:Row
 anl:Bool
 args:List α
 fn:Int
 inl:Bool
 items:List (Vl × α)
 op:Int
 bound:Vl
 exp:Int
structure Tm (α:Type) where
 c:Int
 nl:Bool
 fs:List (Fc α)
structure An (α:Type) where
 nl:Bool
 ts:List (Tm α)
def Ann:Nat→Type
 | 0=>Empty
 | n+1=>An (Ann n)
section
variable {α:Type} (e:α→D)
def eVl (v:Vl):List D:=[.i .i64 v.kind,.i .i64 v.int,.s v.text]
def eIt (p:Vl × α):List D:=[.i .i64 p.1.kind,.i .i64 p.1.int,.s p.1.text,e p.2]
def eArgs (nl:Bool) (l:List α):D:=.sl 1 nl (l.map fun a=>[e a]) .ro
def eItems (nl:Bool) (l:List (Vl × α)):D:=.sl 4 nl (l.map (eIt e)) .ro
def eAt (f:Fc α):List D:=[.i .i64 f.kind,.i .i64 f.row.1,.i .i64 f.row.2,eArgs e f.anl f.args,.i .i64 f.fn,eItems e f.inl f.items,.i .i64 f.op,.i .i64 f.bound.kind,.i .i64 f.bound.int,.s f.bound.text]
def eFc (f:Fc α):List D:=[.i .i64 f.kind,.i .i64 f.row.1,.i .i64 f.row.2,eArgs e f.anl f.args,.i .i64 f.fn,eItems e f.inl f.items,.i .i64 f.op,.i .i64 f.bound.kind,.i .i64 f.bound.int,.s f.bound.text,.i .i64 f.exp]
def eFcs (nl:Bool) (l:List (Fc α)):D:=.sl 11 nl (l.map (eFc e)) .ro
def eTm (t:Tm α):List D:=[.i .i64 t.c,eFcs e t.nl t.fs]
def eTms (nl:Bool) (l:List (Tm α)):D:=.sl 2 nl (l.map (eTm e)) .ro
def eAn (x:An α):D:=eTms e x.nl x.ts
end
def eAnn:(n:Nat)→Ann n→D
 | 0,x=>nomatch x
 | n+1,x=>eAn (eAnn n) x
def GE {α:Type} (e:α→D):Prop:=∀ a,∃ nl xs,e a = .sl 2 nl xs .ro∧noRefLL xs=true
section
variable {α:Type} {e:α→D}
theorem GE.cell (h:GE e) (a:α):isCell (e a)=true:=by obtain ⟨nl,xs,q,_⟩:=h a;rw [q];rfl
theorem GE.noRef (h:GE e) (a:α):noRef (e a)=true:=by obtain ⟨nl,xs,q,k⟩:=h a;rw [q];simpa [DE.noRef] using k
theorem GE.strip (h:GE e) (a:α):strip (e a)=e a:=by obtain ⟨nl,xs,q,k⟩:=h a;rw [q];rfl
theorem noRefLL_all {α:Type} (f:α→List D) (l:List α) (h:∀ x,x∈l→noRefL (f x)=true):noRefLL (l.map f)=true:=by
 induction l with
 | nil=>rfl
 | cons x l ih=>simp [noRefLL,h x (by simp),ih fun y hy=>h y (by simp [hy])]
theorem noRefL_eIt (h:GE e) (p:Vl × α):noRefL (eIt e p)=true:=by simp [eIt,noRefL,DE.noRef,h.noRef]
theorem noRef_eArgs (h:GE e) (nl:Bool) (l:List α):noRef (eArgs e nl l)=true:=by
 simp only [eArgs,DE.noRef,Bool.true_and]
 exact noRefLL_all _ _ fun x _=>by simp [noRefL,h.noRef]
theorem noRef_eItems (h:GE e) (nl:Bool) (l:List (Vl × α)):noRef (eItems e nl l)=true:=by
 simp only [eItems,DE.noRef,Bool.true_and]
 exact noRefLL_all _ _ fun x _=>noRefL_eIt h x
theorem noRefL_eAt (h:GE e) (f:Fc α):noRefL (eAt e f)=true:=by simp [eAt,noRefL,noRef_eArgs h,noRef_eItems h,DE.noRef]
theorem noRefL_eFc (h:GE e) (f:Fc α):noRefL (eFc e f)=true:=by simp [eFc,noRefL,noRef_eArgs h,noRef_eItems h,DE.noRef]
theorem noRef_eFcs (h:GE e) (nl:Bool) (l:List (Fc α)):noRef (eFcs e nl l)=true:=by
 simp only [eFcs,DE.noRef,Bool.true_and]
 exact noRefLL_all _ _ fun x _=>noRefL_eFc h x
theorem noRefL_eTm (h:GE e) (t:Tm α):noRefL (eTm e t)=true:=by simp [eTm,noRefL,noRef_eFcs h]
theorem noRef_eTms (h:GE e) (nl:Bool) (l:List (Tm α)):noRef (eTms e nl l)=true:=by
 simp only [eTms,DE.noRef,Bool.true_and]
 exact noRefLL_all _ _ fun x _=>noRefL_eTm h x
theorem noRef_eAn (h:GE e) (x:An α):noRef (eAn e x)=true:=noRef_eTms h _ _
theorem GE_eAn (h:GE e):GE (eAn e):=fun x=>⟨x.nl,_,rfl,noRefLL_all _ _ fun t _=>noRefL_eTm h t⟩
end
theorem GE_eAnn:∀ n,GE (eAnn n)
 | 0=>fun x=>nomatch x
 | n+1=>GE_eAn (GE_eAnn n)
section
variable {α:Type} (e:α→D) (k:IntKind) (S:Store)
@[simp] theorem strip_eArgs (nl:Bool) (l:List α):strip (eArgs e nl l)=eArgs e nl l:=(rfl)
@[simp] theorem strip_eItems (nl:Bool) (l:List (Vl × α)):strip (eItems e nl l)=eItems e nl l:=(rfl)
@[simp] theorem strip_eFcs (nl:Bool) (l:List (Fc α)):strip (eFcs e nl l)=eFcs e nl l:=(rfl)
@[simp] theorem strip_eTms (nl:Bool) (l:List (Tm α)):strip (eTms e nl l)=eTms e nl l:=(rfl)
@[simp] theorem strip_eAn (x:An α):strip (eAn e x)=eAn e x:=(rfl)
@[simp] theorem strip_agAt (f:Fc α):strip (.agg (eAt e f)) = .agg (eAt e f):=(rfl)
@[simp] theorem strip_agFc (f:Fc α):strip (.agg (eFc e f)) = .agg (eFc e f):=(rfl)
@[simp] theorem strip_agTm (f:Tm α):strip (.agg (eTm e f)) = .agg (eTm e f):=(rfl)
@[simp] theorem strip_agVl (f:Vl):strip (.agg (eVl f)) = .agg (eVl f):=(rfl)
theorem strip_agIt (h:GE e) (p:Vl × α):strip (.agg (eIt e p)) = .agg (eIt e p):=by
 obtain ⟨nl,xs,q,_⟩:=h p.2
 simp only [eIt,q];rfl
@[simp] theorem isCell_eArgs (nl:Bool) (l:List α):isCell (eArgs e nl l)=true:=(rfl)
@[simp] theorem isCell_eItems (nl:Bool) (l:List (Vl × α)):isCell (eItems e nl l)=true:=(rfl)
@[simp] theorem isCell_eFcs (nl:Bool) (l:List (Fc α)):isCell (eFcs e nl l)=true:=(rfl)
@[simp] theorem isCell_eTms (nl:Bool) (l:List (Tm α)):isCell (eTms e nl l)=true:=(rfl)
@[simp] theorem isCell_eAn (x:An α):isCell (eAn e x)=true:=(rfl)
@[simp] theorem isCell_s (l:List UInt8):isCell (.s l)=true:=(rfl)
@[simp] theorem noRef_s (l:List UInt8):noRef (.s l)=true:=(rfl)
@[simp] theorem noRef_agVl (f:Vl):noRef (.agg (eVl f))=true:=(rfl)
@[simp] theorem strip_s (l:List UInt8):strip (.s l) = .s l:=(rfl)
@[simp] theorem eVl_len (f:Vl):(eVl f).length=3:=(rfl)
@[simp] theorem eIt_len (f:Vl × α):(eIt e f).length=4:=(rfl)
@[simp] theorem eAt_len (f:Fc α):(eAt e f).length=10:=(rfl)
@[simp] theorem eFc_len (f:Fc α):(eFc e f).length=11:=(rfl)
@[simp] theorem eTm_len (f:Tm α):(eTm e f).length=2:=(rfl)
@[simp] theorem allCell_vl (f:Vl):allCell (eVl f)=true:=(rfl)
@[simp] theorem allCell_at (f:Fc α):allCell (eAt e f)=true:=(rfl)
@[simp] theorem allCell_fc (f:Fc α):allCell (eFc e f)=true:=(rfl)
@[simp] theorem allCell_tm (f:Tm α):allCell (eTm e f)=true:=(rfl)
theorem allCell_it (h:GE e) (p:Vl × α):allCell (eIt e p)=true:=by simp [eIt,h.cell]
@[simp] theorem cellsK_vl (f:Vl):cellsK 3 true (.agg (eVl f))=some (eVl f):=(rfl)
@[simp] theorem cellsK_at (f:Fc α):cellsK 10 true (.agg (eAt e f))=some (eAt e f):=(rfl)
@[simp] theorem cellsK_fc (f:Fc α):cellsK 11 true (.agg (eFc e f))=some (eFc e f):=(rfl)
@[simp] theorem cellsK_tm (f:Tm α):cellsK 2 true (.agg (eTm e f))=some (eTm e f):=(rfl)
theorem cellsK_it (h:GE e) (p:Vl × α):cellsK 4 true (.agg (eIt e p))=some (eIt e p):=cellsK_agg rfl (allCell_it e h p)
@[simp] theorem splice_vl (f:Vl) (z0 z1 z2:D):splice [z0,z1,z2] 0 (eVl f)=eVl f:=(rfl)
@[simp] theorem splice_it (f:Vl × α) (z0 z1 z2 z3:D):splice [z0,z1,z2,z3] 0 (eIt e f)=eIt e f:=(rfl)
@[simp] theorem splice_tm (f:Tm α) (z0 z1:D):splice [z0,z1] 0 (eTm e f)=eTm e f:=(rfl)
@[simp] theorem splice_at (f:Fc α) (z0 z1 z2 z3 z4 z5 z6 z7 z8 z9:D):splice [z0,z1,z2,z3,z4,z5,z6,z7,z8,z9] 0 (eAt e f)=eAt e f:=(rfl)
@[simp] theorem splice_fc (f:Fc α) (z0 z1 z2 z3 z4 z5 z6 z7 z8 z9 z10:D):splice [z0,z1,z2,z3,z4,z5,z6,z7,z8,z9,z10] 0 (eFc e f)=eFc e f:=(rfl)
@[simp high] theorem vl_0 (f:Vl):(eVl f)[0]? = some (.i .i64 f.kind):=(rfl)
@[simp high] theorem vl_1 (f:Vl):(eVl f)[1]? = some (.i .i64 f.int):=(rfl)
@[simp high] theorem vl_2 (f:Vl):(eVl f)[2]? = some (.s f.text):=(rfl)
@[simp high] theorem it_0 (f:Vl × α):(eIt e f)[0]? = some (.i .i64 f.1.kind):=(rfl)
@[simp high] theorem it_1 (f:Vl × α):(eIt e f)[1]? = some (.i .i64 f.1.int):=(rfl)
@[simp high] theorem it_2 (f:Vl × α):(eIt e f)[2]? = some (.s f.1.text):=(rfl)
@[simp high] theorem it_3 (f:Vl × α):(eIt e f)[3]? = some (e f.2):=(rfl)
@[simp high] theorem tm_0 (f:Tm α):(eTm e f)[0]? = some (.i .i64 f.c):=(rfl)
@[simp high] theorem tm_1 (f:Tm α):(eTm e f)[1]? = some (eFcs e f.nl f.fs):=(rfl)
@[simp high] theorem at_0 (f:Fc α):(eAt e f)[0]? = some (.i .i64 f.kind):=(rfl)
@[simp high] theorem at_1 (f:Fc α):(eAt e f)[1]? = some (.i .i64 f.row.1):=(rfl)
@[simp high] theorem at_2 (f:Fc α):(eAt e f)[2]? = some (.i .i64 f.row.2):=(rfl)
@[simp high] theorem at_3 (f:Fc α):(eAt e f)[3]? = some (eArgs e f.anl f.args):=(rfl)
@[simp high] theorem at_4 (f:Fc α):(eAt e f)[4]? = some (.i .i64 f.fn):=(rfl)
@[simp high] theorem at_5 (f:Fc α):(eAt e f)[5]? = some (eItems e f.inl f.items):=(rfl)
@[simp high] theorem at_6 (f:Fc α):(eAt e f)[6]? = some (.i .i64 f.op):=(rfl)
@[simp high] theorem at_7 (f:Fc α):(eAt e f)[7]? = some (.i .i64 f.bound.kind):=(rfl)
@[simp high] theorem at_8 (f:Fc α):(eAt e f)[8]? = some (.i .i64 f.bound.int):=(rfl)
@[simp high] theorem at_9 (f:Fc α):(eAt e f)[9]? = some (.s f.bound.text):=(rfl)
@[simp high] theorem fc_0 (f:Fc α):(eFc e f)[0]? = some (.i .i64 f.kind):=(rfl)
@[simp high] theorem fc_1 (f:Fc α):(eFc e f)[1]? = some (.i .i64 f.row.1):=(rfl)
@[simp high] theorem fc_2 (f:Fc α):(eFc e f)[2]? = some (.i .i64 f.row.2):=(rfl)
@[simp high] theorem fc_3 (f:Fc α):(eFc e f)[3]? = some (eArgs e f.anl f.args):=(rfl)
@[simp high] theorem fc_4 (f:Fc α):(eFc e f)[4]? = some (.i .i64 f.fn):=(rfl)
@[simp high] theorem fc_5 (f:Fc α):(eFc e f)[5]? = some (eItems e f.inl f.items):=(rfl)
@[simp high] theorem fc_6 (f:Fc α):(eFc e f)[6]? = some (.i .i64 f.op):=(rfl)
@[simp high] theorem fc_7 (f:Fc α):(eFc e f)[7]? = some (.i .i64 f.bound.kind):=(rfl)
@[simp high] theorem fc_8 (f:Fc α):(eFc e f)[8]? = some (.i .i64 f.bound.int):=(rfl)
@[simp high] theorem fc_9 (f:Fc α):(eFc e f)[9]? = some (.s f.bound.text):=(rfl)
@[simp high] theorem fc_10 (f:Fc α):(eFc e f)[10]? = some (.i .i64 f.exp):=(rfl)
@[simp high] theorem rdK_fc_at (f:Fc α):rdK (eFc e f) 0 10 true=some (.agg (eAt e f)):=(rfl)
@[simp high] theorem rdK_fc (f:Fc α):rdK (eFc e f) 0 11 true=some (.agg (eFc e f)):=(rfl)
@[simp high] theorem rdK_fc_row (f:Fc α):rdK (eFc e f) 1 2 true=some (.agg (eRow f.row)):=(rfl)
@[simp high] theorem rdK_fc_vl (f:Fc α):rdK (eFc e f) 7 3 true=some (.agg (eVl f.bound)):=(rfl)
@[simp high] theorem rdK_at (f:Fc α):rdK (eAt e f) 0 10 true=some (.agg (eAt e f)):=(rfl)
@[simp high] theorem rdK_at_row (f:Fc α):rdK (eAt e f) 1 2 true=some (.agg (eRow f.row)):=(rfl)
@[simp high] theorem rdK_at_vl (f:Fc α):rdK (eAt e f) 7 3 true=some (.agg (eVl f.bound)):=(rfl)
@[simp high] theorem rdK_tm (f:Tm α):rdK (eTm e f) 0 2 true=some (.agg (eTm e f)):=(rfl)
@[simp high] theorem rdK_vl (f:Vl):rdK (eVl f) 0 3 true=some (.agg (eVl f)):=(rfl)
@[simp high] theorem rdK_it (f:Vl × α):rdK (eIt e f) 0 4 true=some (.agg (eIt e f)):=(rfl)
@[simp high] theorem rdK_it_vl (f:Vl × α):rdK (eIt e f) 0 3 true=some (.agg (eVl f.1)):=(rfl)
@[simp] theorem lenD_eArgs (nl:Bool) (l:List α):lenD false (eArgs e nl l)=some (.i .i64 l.length):=by simp [eArgs,lenD]
@[simp] theorem lenD_eItems (nl:Bool) (l:List (Vl × α)):lenD false (eItems e nl l)=some (.i .i64 l.length):=by simp [eItems,lenD]
@[simp] theorem lenD_eFcs (nl:Bool) (l:List (Fc α)):lenD false (eFcs e nl l)=some (.i .i64 l.length):=by simp [eFcs,lenD]
@[simp] theorem lenD_eTms (nl:Bool) (l:List (Tm α)):lenD false (eTms e nl l)=some (.i .i64 l.length):=by simp [eTms,lenD]
@[simp] theorem lenD_eAn (x:An α):lenD false (eAn e x)=some (.i .i64 x.ts.length):=by simp [eAn]
@[simp] theorem lenD_s (l:List UInt8):lenD true (.s l)=some (.i .i64 l.length):=(rfl)
theorem iaD_eArgs {nl:Bool} {l:List α} {n:Nat} {r:α} (h:l[n]? = some r):iaD 1 (eArgs e nl l) (.i k n)=some (.el [e r] 0):=by simp [eArgs,iaD,h]
theorem iaD_eItems {nl:Bool} {l:List (Vl × α)} {n:Nat} {r:Vl × α} (h:l[n]? = some r):iaD 4 (eItems e nl l) (.i k n)=some (.el (eIt e r) 0):=by simp [eItems,iaD,h]
theorem iaD_eFcs {nl:Bool} {l:List (Fc α)} {n:Nat} {r:Fc α} (h:l[n]? = some r):iaD 11 (eFcs e nl l) (.i k n)=some (.el (eFc e r) 0):=by simp [eFcs,iaD,h]
theorem iaD_eTms {nl:Bool} {l:List (Tm α)} {n:Nat} {r:Tm α} (h:l[n]? = some r):iaD 2 (eTms e nl l) (.i k n)=some (.el (eTm e r) 0):=by simp [eTms,iaD,h]
theorem iaD_eAn {x:An α} {n:Nat} {r:Tm α} (h:x.ts[n]? = some r):iaD 2 (eAn e x) (.i k n)=some (.el (eTm e r) 0):=iaD_eTms e k h
@[simp] theorem bin_s_eql (l m:List UInt8):binD .eql .str (.s l) (.s m)=some (.b (l == m)):=(rfl)
@[simp] theorem bin_s_neq (l m:List UInt8):binD .neq .str (.s l) (.s m)=some (.b (!(l == m))):=(rfl)
end
theorem sum_take {α:Type} (f:α→Nat) {l:List α} {k:Nat} {x:α} (h:l[k]? = some x):((l.take (k+1)).map f).sum=((l.take k).map f).sum+f x:=by
 rw [List.take_add_one,h];simp
theorem sum_take_le {α:Type} (f:α→Nat):∀ (l:List α) (k:Nat),((l.take k).map f).sum≤(l.map f).sum
 | [],k=>by simp
 | x::l,0=>by simp
 | x::l,k+1=>by have:=sum_take_le f l k;simp only [List.take_succ_cons,List.map_cons,List.sum_cons];omega
theorem sum_mem_le {α:Type} (f:α→Nat):∀ {l:List α} {x:α},x∈l→f x≤(l.map f).sum
 | y::l,x,h=>by
  rcases List.mem_cons.1 h with h | h
  ·subst h;simp
  ·have:=sum_mem_le f h;simp only [List.map_cons,List.sum_cons];omega
theorem len_le_sum {α:Type} (f:α→Nat) (h:∀ x,1≤f x):∀ (l:List α),l.length≤(l.map f).sum
 | []=>by simp
 | x::l=>by have:=len_le_sum f h l;have:=h x;simp only [List.map_cons,List.sum_cons,List.length_cons];omega
section
variable {α:Type} (w:α→Nat)
def wIt (p:Vl × α):Nat:=p.1.text.length+w p.2
def wFc (f:Fc α):Nat:=f.items.length+f.args.length+f.bound.text.length+(f.args.map w).sum+(f.items.map (wIt w)).sum
def wTm (t:Tm α):Nat:=1+t.fs.length+(t.fs.map (wFc w)).sum
def wAn (x:An α):Nat:=(x.ts.map (wTm w)).sum
end
def wAnn:(n:Nat)→Ann n→Nat
 | 0,x=>nomatch x
 | n+1,x=>wAn (wAnn n) x
abbrev Len63 (n:Nat):Prop:=n≤9223372036854775807
theorem wrapL {k n:Nat} (h:k<n) (hn:Len63 n):IntKind.wrap .i64 ((k:Int)+1)=((k+1:Nat):Int):=by
 rw [wrap64 ⟨by omega,by unfold Len63 at hn;omega⟩];omega
def okVl (v:Vl):Prop:=in64 v.kind∧in64 v.int∧Len63 v.text.length
section
variable {α:Type} (ok:α→Prop)
structure OkFc (f:Fc α):Prop where
 kind:in64 f.kind
 row:okRow f.row
 anl:f.anl=true→f.args=[]
 alen:Len63 f.args.length
 args:∀ a,a∈f.args→ok a
 fn:in64 f.fn
 inl:f.inl=true→f.items=[]
 ilen:Len63 f.items.length
 items:∀ p,p∈f.items→okVl p.1∧ok p.2
 op:in64 f.op
 bound:okVl f.bound
 exp:in64 f.exp
structure OkTm (t:Tm α):Prop where
 c:in64 t.c
 nl:t.nl=true→t.fs=[]
 len:Len63 t.fs.length
 fs:∀ f,f∈t.fs→OkFc ok f
structure OkAn (x:An α):Prop where
 nl:x.nl=true→x.ts=[]
 len:Len63 x.ts.length
 ts:∀ t,t∈x.ts→OkTm ok t
end
section
variable {α:Type} (sm:α→Prop)
structure SmFc (f:Fc α):Prop where
 alen:f.args.length≤1048576
 args:∀ a,a∈f.args→sm a
 ilen:f.items.length≤1048576
 items:∀ p,p∈f.items→p.1.text.length≤1048576∧sm p.2
 bound:f.bound.text.length≤1048576
structure SmTm (t:Tm α):Prop where
 len:t.fs.length≤1048576
 fs:∀ f,f∈t.fs→SmFc sm f
structure SmAn (x:An α):Prop where
 len:x.ts.length≤1048576
 ts:∀ t,t∈x.ts→SmTm sm t
end
def SmAnn:(n:Nat)→Ann n→Prop
 | 0,_=>True
 | n+1,x=>SmAn (SmAnn n) x
def OkAnn:(n:Nat)→Ann n→Prop
 | 0,_=>True
 | n+1,x=>OkAn (OkAnn n) x
end Go.Proofs.YtjlmeikcfdanmaaGreatDoor.DE.V

namespace Go.Proofs.YtjlmeikcfdanmaaGreatDoor.DE
open Go
abbrev QT:=Ex→List D→Store→Prop
abbrev PT:=D→Store→Prop
end Go.Proofs.YtjlmeikcfdanmaaGreatDoor.DE
namespace Go.Proofs.YtjlmeikcfdanmaaGreatDoor.DE
open Go
variable (cf:CallF) (a0 a1 a2 a3 a4 a5 a6 a7 a8 a9 a10 a11 a12 a13 a14 a15 a16 a18 a21 a25 a32 a33 a34 a35 a36 a47 a58 a65 a66 a69 a70 a80 a84 a104 a109 a120 a124 a139 a144:D) (S:Store) (Q:QT) (Post:PT)
def s187 (cf:CallF) (a0:D) (S:Store) (Post:PT):Prop:=
 OX (binD .neq .num a0 a0) fun x1=>Post x1 S
theorem e187:wp cf c187 (frame0 d187 [a0]) S (FinK d187.res Post)=s187 cf a0 S Post:=wpS_of (by kernel_rfl)
theorem i187 (a0:D) (r:D) (ha:noRefL (stripL [a0])=true) (hr:noRef r=true) (h:s187 (call dp) (strip a0) [] fun d _=>stripT d=r):isoCall (call dp) 187 [a0]=some r:=iso_s (f:=d187) rfl ⟨rfl,by decide⟩ ha hr (by rw [←e187] at h;exact h)
def s144 (cf:CallF) (a0 a1:D) (S:Store) (Post:PT):Prop:=
 OX (isoCall cf 187 [a0]) fun x1=>OX (isoCall cf 187 [a1]) fun x2=>WB x1
 (WB x2
 (Post (.i .i64 0) S)
 (Post (.i .i64 (-1)) S))
 (WB x2
 (Post (.i .i64 1) S)
 (OX (binD .lss .num a0 a1) fun x3=>WB x3
 (Post (.i .i64 (-1)) S)
 (OX (binD .gtr .num a0 a1) fun x4=>WB x4
 (Post (.i .i64 1) S)
 (Post (.i .i64 0) S))))
theorem e144:wp cf c144 (frame0 d144 [a0,a1]) S (FinK d144.res Post)=s144 cf a0 a1 S Post:=wpS_of (by kernel_rfl)
theorem i144 (a0 a1:D) (r:D) (ha:noRefL (stripL [a0,a1])=true) (hr:noRef r=true) (h:s144 (call dp) (strip a0) (strip a1) [] fun d _=>stripT d=r):isoCall (call dp) 144 [a0,a1]=some r:=iso_s (f:=d144) rfl ⟨rfl,by decide⟩ ha hr (by rw [←e144] at h;exact h)
def s143_r0 (cf:CallF) (a2 a3 a6 a7 a8 a9:D) (S:Store) (Q:QT):Prop:=
 Q .ret (mkf 18 [(2,a3),(3,.top),(6,.top),(7,.top),(8,.top),(9,.top)]) S
theorem e143_r0:wp cf c143_r0 (mkf 18 [(2,a2),(3,a3),(6,a6),(7,a7),(8,a8),(9,a9)]) S Q=s143_r0 cf a2 a3 a6 a7 a8 a9 S Q:=wpS_of (by kernel_rfl)
def s143_0 (cf:CallF) (a2 a3 a6 a7 a8 a9:D) (S:Store) (Q:QT):Prop:=
 OX (binD .lss .num a8 a7) fun x1=>WB x1
 (OX (iaD 1 a6 a8) fun x2=>OX (ldD S 1 false x2) fun x3=>OX (binD .neq .num x3 a3) fun x4=>WB x4
 (Q .ret (mkf 18 [(2,x3),(3,.top),(6,.top),(7,.top),(8,.top),(9,.top)]) S)
 (OX (binD .add .num a8 (.i .i64 1)) fun x5=>Q .normal (mkf 18 [(2,a2),(3,a3),(6,a6),(7,a7),(8,x5),(9,.top)]) S))
 (Q (.exit 0) (mkf 18 [(2,a2),(3,a3),(6,a6),(7,a7),(8,a8),(9,x1)]) S)
theorem e143_0:wp cf c143_0 (fkill (mkf 18 [(2,a2),(3,a3),(6,a6),(7,a7),(8,a8),(9,a9)]) []) S Q=s143_0 cf a2 a3 a6 a7 a8 a9 S Q:=wpS_of (by kernel_rfl)
def s143 (cf:CallF) (a0:D) (S:Store) (Post:PT):Prop:=
 OX (lenD false a0) fun x6=>W cf (.loop [] c143_0) (mkf 18 [(2,.top),(3,(.i .i64 0)),(6,a0),(7,x6),(8,(.i .i64 0)),(9,.top)]) S (Qblk 0 (QS cf c143_r0 (FinK [.t 2] Post)))
theorem e143:wp cf c143 (frame0 d143 [a0]) S (FinK d143.res Post)=s143 cf a0 S Post:=wpS_of (by kernel_rfl)
theorem i143 (a0:D) (r:D) (ha:noRefL (stripL [a0])=true) (hr:noRef r=true) (h:s143 (call dp) (strip a0) [] fun d _=>stripT d=r):isoCall (call dp) 143 [a0]=some r:=iso_s (f:=d143) rfl ⟨rfl,by decide⟩ ha hr (by rw [←e143] at h;exact h)
def s123 (cf:CallF) (a0 a1:D) (S:Store) (Post:PT):Prop:=
 bxx 2 true a0 S fun x1 S2=>bxx 2 true a1 S2 fun x3 S4=>OX (faD 0 x1) fun x5=>OX (ldD S4 1 false x5) fun x6=>OX (faD 0 x3) fun x7=>OX (ldD S4 1 false x7) fun x8=>OX (isoCall cf 144 [x6,x8]) fun x9=>OX (faD 1 x1) fun x10=>OX (ldD S4 1 false x10) fun x11=>OX (faD 1 x3) fun x12=>OX (ldD S4 1 false x12) fun x13=>OX (isoCall cf 144 [x11,x13]) fun x14=>OX (cellsV 1 false [x9,x14]) fun x15=>OX (isoCall cf 143 [(.sl 1 false x15 .ro)]) fun x16=>Post x16 S4
theorem e123:wp cf c123 (frame0 d123 [a0,a1]) S (FinK d123.res Post)=s123 cf a0 a1 S Post:=wpS_of (by kernel_rfl)
theorem i123 (a0 a1:D) (r:D) (ha:noRefL (stripL [a0,a1])=true) (hr:noRef r=true) (h:s123 (call dp) (strip a0) (strip a1) [] fun d _=>stripT d=r):isoCall (call dp) 123 [a0,a1]=some r:=iso_s (f:=d123) rfl ⟨rfl,by decide⟩ ha hr (by rw [←e123] at h;exact h)
def s198_r0 (cf:CallF) (a0 a1 a2 a3 a8 a9 a14 a34:D) (S:Store) (Q:QT):Prop:=
 OX (binD .add .num a8 (.i .i64 1)) fun x1=>Q .normal (mkf 53 [(0,a0),(1,a1),(2,a2),(3,a3),(8,x1),(9,.top),(14,a14),(34,.top)]) S
theorem e198_r0:wp cf c198_r0 (mkf 53 [(0,a0),(1,a1),(2,a2),(3,a3),(8,a8),(9,a9),(14,a14),(34,a34)]) S Q=s198_r0 cf a0 a1 a2 a3 a8 a9 a14 a34 S Q:=wpS_of (by kernel_rfl)
def s198_0 (cf:CallF) (a0 a1 a2 a3 a8 a9 a14 a34:D) (S:Store) (Q:QT):Prop:=
 OX (binD .gtr .num a9 a1) fun x2=>OX (gsel x2 true (some a3)) fun x3=>OX (gsel x2 true (some a0)) fun x4=>OX (gsel x2 true (some a9)) fun x5=>OX (gsel x2 true (iaD 2 x4 x5)) fun x6=>OX (gsel x2 true (ldD S 2 true x6)) fun x7=>OX (gsel x2 true (some a0)) fun x8=>OX (gsel x2 true (some a9)) fun x9=>OX (gsel x2 true (binD .sub .num x9 (.i .i64 1))) fun x10=>OX (gsel x2 true (iaD 2 x8 x10)) fun x11=>OX (gsel x2 true (ldD S 2 true x11)) fun x12=>OX (gsel x2 true (match fnD x3 with | some p=>isoCall cf p.1 ([x7,x12]++p.2) | none=>none)) fun x13=>OX (gsel x2 true (binD .lss .num x13 (.i .i64 0))) fun x14=>OX (pickD x2 x14 (.b false)) fun x15=>WB x15
 (OX (binD .sub .num a9 (.i .i64 1)) fun x16=>OX (binD .sub .num a9 (.i .i64 1)) fun x17=>OX (iaD 2 a0 x17) fun x18=>OX (ldD S 2 true x18) fun x19=>OX (iaD 2 a0 a9) fun x20=>OX (ldD S 2 true x20) fun x21=>OX (iaD 2 a0 a9) fun x22=>OX (stD S 2 true x22 x19) fun S24=>OX (iaD 2 a0 x16) fun x25=>OX (stD S24 2 true x25 x21) fun S27=>OX (binD .sub .num a9 (.i .i64 1)) fun x28=>Q .normal (mkf 53 [(0,a0),(1,a1),(2,a2),(3,a3),(8,a8),(9,x28),(14,a14),(34,.top)]) S27)
 (Q (.exit 2) (mkf 53 [(0,a0),(1,a1),(2,a2),(3,a3),(8,a8),(9,a9),(14,a14),(34,x15)]) S)
theorem e198_0:wp cf c198_0 (fkill (mkf 53 [(0,a0),(1,a1),(2,a2),(3,a3),(8,a8),(9,a9),(14,a14),(34,a34)]) []) S Q=s198_0 cf a0 a1 a2 a3 a8 a9 a14 a34 S Q:=wpS_of (by kernel_rfl)
def s198_1 (cf:CallF) (a0 a1 a2 a3 a8 a9 a14 a34:D) (S:Store) (Q:QT):Prop:=
 OX (binD .lss .num a8 a2) fun x29=>WB x29
 (W cf (.loop [] c198_0) (mkf 53 [(0,a0),(1,a1),(2,a2),(3,a3),(8,a8),(9,a8),(14,.top),(34,a34)]) S (Qblk 2 (Qblk 1 (QS cf c198_r0 Q))))
 (Q (.exit 0) (mkf 53 [(0,a0),(1,a1),(2,a2),(3,a3),(8,a8),(9,a9),(14,x29),(34,a34)]) S)
theorem e198_1:wp cf c198_1 (fkill (mkf 53 [(0,a0),(1,a1),(2,a2),(3,a3),(8,a8),(9,a9),(14,a14),(34,a34)]) []) S Q=s198_1 cf a0 a1 a2 a3 a8 a9 a14 a34 S Q:=wpS_of (by kernel_rfl)
def s198 (cf:CallF) (a0 a1 a2 a3:D) (S:Store) (Post:PT):Prop:=
 OX (binD .add .num a1 (.i .i64 1)) fun x30=>W cf (.loop [] c198_1) (mkf 53 [(0,a0),(1,a1),(2,a2),(3,a3),(8,x30),(9,.top),(14,.top),(34,.top)]) S (Qblk 0 (FinK [] Post))
theorem e198:wp cf c198 (frame0 d198 [a0,a1,a2,a3]) S (FinK d198.res Post)=s198 cf a0 a1 a2 a3 S Post:=wpS_of (by kernel_rfl)
theorem f198 (a0 a1 a2 a3:D) (S:Store) (Post:PT) (h:s198 (call dp) a0 a1 a2 a3 S Post):∃ r S',call dp 198 [a0,a1,a2,a3] S=some (r,S')∧Post r S':=call_s (f:=d198) rfl ⟨rfl,by decide⟩ (by rw [←e198] at h;exact h)
def s216_0 (cf:CallF) (a0 a2 a3 a4 a10 a11 a18 a58:D) (S:Store) (Q:QT):Prop:=
 OX (binD .mul .num (.i .i64 2) a10) fun x1=>OX (binD .add .num x1 (.i .i64 1)) fun x2=>OX (binD .geq .num x2 a2) fun x3=>WB x3
 (Q (.exit 0) (mkf 82 [(0,a0),(2,a2),(3,a3),(4,a4),(10,a10),(11,x2),(18,x3),(58,a58)]) S)
 (OX (binD .add .num x2 (.i .i64 1)) fun x4=>OX (binD .lss .num x4 a2) fun x5=>OX (gsel x5 true (some a4)) fun x6=>OX (gsel x5 true (some a0)) fun x7=>OX (gsel x5 true (some a3)) fun x8=>OX (gsel x5 true (some x2)) fun x9=>OX (gsel x5 true (binD .add .num x8 x9)) fun x10=>OX (gsel x5 true (iaD 2 x7 x10)) fun x11=>OX (gsel x5 true (ldD S 2 true x11)) fun x12=>OX (gsel x5 true (some a0)) fun x13=>OX (gsel x5 true (some a3)) fun x14=>OX (gsel x5 true (some x2)) fun x15=>OX (gsel x5 true (binD .add .num x14 x15)) fun x16=>OX (gsel x5 true (binD .add .num x16 (.i .i64 1))) fun x17=>OX (gsel x5 true (iaD 2 x13 x17)) fun x18=>OX (gsel x5 true (ldD S 2 true x18)) fun x19=>OX (gsel x5 true (match fnD x6 with | some p=>isoCall cf p.1 ([x12,x19]++p.2) | none=>none)) fun x20=>OX (gsel x5 true (binD .lss .num x20 (.i .i64 0))) fun x21=>OX (pickD x5 x21 (.b false)) fun x22=>jn (fun (y24 y25 y26 y27 y28 y29 y30 y31:D) (S32:Store)=>OX (binD .add .num y26 y28) fun x33=>OX (iaD 2 y24 x33) fun x34=>OX (ldD S32 2 true x34) fun x35=>OX (binD .add .num y26 y29) fun x36=>OX (iaD 2 y24 x36) fun x37=>OX (ldD S32 2 true x37) fun x38=>OX (fnD y27) fun q40=>OX (isoCall cf q40.1 ([x35,x38]++q40.2)) fun x39=>OX (binD .lss .num x39 (.i .i64 0)) fun x41=>OX (unD .not x41) fun x42=>WB x42
 (Q .ret (mkf 82 [(0,y24),(2,y25),(3,y26),(4,y27),(10,y28),(11,y29),(18,.top),(58,x42)]) S32)
 (OX (binD .add .num y26 y28) fun x43=>OX (binD .add .num y26 y29) fun x44=>OX (binD .add .num y26 y29) fun x45=>OX (iaD 2 y24 x45) fun x46=>OX (ldD S32 2 true x46) fun x47=>OX (binD .add .num y26 y28) fun x48=>OX (iaD 2 y24 x48) fun x49=>OX (ldD S32 2 true x49) fun x50=>OX (iaD 2 y24 x43) fun x51=>OX (stD S32 2 true x51 x47) fun S53=>OX (iaD 2 y24 x44) fun x54=>OX (stD S53 2 true x54 x50) fun S56=>Q .normal (mkf 82 [(0,y24),(2,y25),(3,y26),(4,y27),(10,y29),(11,.top),(18,.top),(58,.top)]) S56)) fun k23=>WB x22
 (OX (binD .add .num x2 (.i .i64 1)) fun x57=>k23 a0 a2 a3 a4 a10 x57 D.top a58 S)
 (k23 a0 a2 a3 a4 a10 x2 x22 a58 S))
theorem e216_0:wp cf c216_0 (fkill (mkf 82 [(0,a0),(2,a2),(3,a3),(4,a4),(10,a10),(11,a11),(18,a18),(58,a58)]) []) S Q=s216_0 cf a0 a2 a3 a4 a10 a11 a18 a58 S Q:=wpS_of (by kernel_rfl)
def s216 (cf:CallF) (a0 a1 a2 a3 a4:D) (S:Store) (Post:PT):Prop:=
 W cf (.loop [] c216_0) (mkf 82 [(0,a0),(2,a2),(3,a3),(4,a4),(10,a1),(11,.top),(18,.top),(58,.top)]) S (Qblk 0 (FinK [] Post))
theorem e216:wp cf c216 (frame0 d216 [a0,a1,a2,a3,a4]) S (FinK d216.res Post)=s216 cf a0 a1 a2 a3 a4 S Post:=wpS_of (by kernel_rfl)
theorem f216 (a0 a1 a2 a3 a4:D) (S:Store) (Post:PT) (h:s216 (call dp) a0 a1 a2 a3 a4 S Post):∃ r S',call dp 216 [a0,a1,a2,a3,a4] S=some (r,S')∧Post r S':=call_s (f:=d216) rfl ⟨rfl,by decide⟩ (by rw [←e216] at h;exact h)
def s199_0 (cf:CallF) (a0 a3 a8 a9 a10 a11 a12 a21 a33:D) (S:Store) (Q:QT):Prop:=
 OX (binD .geq .num a12 (.i .i64 0)) fun x1=>WB x1
 (OX (binD .add .num a8 a12) fun x2=>OX (binD .add .num a8 a12) fun x3=>OX (iaD 2 a0 x3) fun x4=>OX (ldD S 2 true x4) fun x5=>OX (iaD 2 a0 a8) fun x6=>OX (ldD S 2 true x6) fun x7=>OX (iaD 2 a0 a8) fun x8=>OX (stD S 2 true x8 x5) fun S10=>OX (iaD 2 a0 x2) fun x11=>OX (stD S10 2 true x11 x7) fun S13=>OX (cf 216 [a0,a9,a12,a8,a3] S13) fun p15=>OX (binD .sub .num a12 (.i .i64 1)) fun x16=>Q .normal (mkf 60 [(0,a0),(3,a3),(8,a8),(9,a9),(10,a10),(11,a11),(12,x16),(21,a21),(33,.top)]) p15.2)
 (Q (.exit 2) (mkf 60 [(0,a0),(3,a3),(8,a8),(9,a9),(10,a10),(11,a11),(12,a12),(21,a21),(33,x1)]) S)
theorem e199_0:wp cf c199_0 (fkill (mkf 60 [(0,a0),(3,a3),(8,a8),(9,a9),(10,a10),(11,a11),(12,a12),(21,a21),(33,a33)]) []) S Q=s199_0 cf a0 a3 a8 a9 a10 a11 a12 a21 a33 S Q:=wpS_of (by kernel_rfl)
def s199_r0 (cf:CallF) (a0 a3 a8 a9 a10 a11 a12 a21 a33:D) (S:Store) (Q:QT):Prop:=
 OX (binD .sub .num a10 (.i .i64 1)) fun x17=>W cf (.loop [] c199_0) (mkf 60 [(0,a0),(3,a3),(8,a8),(9,a9),(10,.top),(11,.top),(12,x17),(21,.top),(33,a33)]) S (Qblk 2 Q)
theorem e199_r0:wp cf c199_r0 (mkf 60 [(0,a0),(3,a3),(8,a8),(9,a9),(10,a10),(11,a11),(12,a12),(21,a21),(33,a33)]) S Q=s199_r0 cf a0 a3 a8 a9 a10 a11 a12 a21 a33 S Q:=wpS_of (by kernel_rfl)
def s199_1 (cf:CallF) (a0 a3 a8 a9 a10 a11 a12 a21 a33:D) (S:Store) (Q:QT):Prop:=
 OX (binD .geq .num a11 (.i .i64 0)) fun x18=>WB x18
 (OX (cf 216 [a0,a11,a10,a8,a3] S) fun p20=>OX (binD .sub .num a11 (.i .i64 1)) fun x21=>Q .normal (mkf 60 [(0,a0),(3,a3),(8,a8),(9,a9),(10,a10),(11,x21),(12,a12),(21,.top),(33,a33)]) p20.2)
 (Q (.exit 0) (mkf 60 [(0,a0),(3,a3),(8,a8),(9,a9),(10,a10),(11,a11),(12,a12),(21,x18),(33,a33)]) S)
theorem e199_1:wp cf c199_1 (fkill (mkf 60 [(0,a0),(3,a3),(8,a8),(9,a9),(10,a10),(11,a11),(12,a12),(21,a21),(33,a33)]) []) S Q=s199_1 cf a0 a3 a8 a9 a10 a11 a12 a21 a33 S Q:=wpS_of (by kernel_rfl)
def s199 (cf:CallF) (a0 a1 a2 a3:D) (S:Store) (Post:PT):Prop:=
 OX (binD .sub .num a2 a1) fun x22=>OX (binD .sub .num x22 (.i .i64 1)) fun x23=>OX (binD .quo .num x23 (.i .i64 2)) fun x24=>W cf (.loop [] c199_1) (mkf 60 [(0,a0),(3,a3),(8,a1),(9,(.i .i64 0)),(10,x22),(11,x24),(12,.top),(21,.top),(33,.top)]) S (Qblk 0 (QS cf c199_r0 (FinK [] Post)))
theorem e199:wp cf c199 (frame0 d199 [a0,a1,a2,a3]) S (FinK d199.res Post)=s199 cf a0 a1 a2 a3 S Post:=wpS_of (by kernel_rfl)
theorem f199 (a0 a1 a2 a3:D) (S:Store) (Post:PT) (h:s199 (call dp) a0 a1 a2 a3 S Post):∃ r S',call dp 199 [a0,a1,a2,a3] S=some (r,S')∧Post r S':=call_s (f:=d199) rfl ⟨rfl,by decide⟩ (by rw [←e199] at h;exact h)
def s218 (cf:CallF) (a0:D) (S:Store) (Post:PT):Prop:=
 OX (nilckD a0) fun x1=>OX (ldD S 1 false x1) fun x2=>OX (nilckD a0) fun x3=>OX (ldD S 1 false x3) fun x4=>OX (binD .shl .num x4 (.i .u64 13)) fun x5=>OX (binD .xor .num x2 x5) fun x6=>OX (nilckD a0) fun x7=>OX (stD S 1 false x7 x6) fun S9=>OX (nilckD a0) fun x10=>OX (ldD S9 1 false x10) fun x11=>OX (nilckD a0) fun x12=>OX (ldD S9 1 false x12) fun x13=>OX (binD .shr .num x13 (.i .u64 7)) fun x14=>OX (binD .xor .num x11 x14) fun x15=>OX (nilckD a0) fun x16=>OX (stD S9 1 false x16 x15) fun S18=>OX (nilckD a0) fun x19=>OX (ldD S18 1 false x19) fun x20=>OX (nilckD a0) fun x21=>OX (ldD S18 1 false x21) fun x22=>OX (binD .shl .num x22 (.i .u64 17)) fun x23=>OX (binD .xor .num x20 x23) fun x24=>OX (nilckD a0) fun x25=>OX (stD S18 1 false x25 x24) fun S27=>OX (nilckD a0) fun x28=>OX (ldD S27 1 false x28) fun x29=>Post x29 S27
theorem e218:wp cf c218 (frame0 d218 [a0]) S (FinK d218.res Post)=s218 cf a0 S Post:=wpS_of (by kernel_rfl)
theorem f218 (a0:D) (S:Store) (Post:PT) (h:s218 (call dp) a0 S Post):∃ r S',call dp 218 [a0] S=some (r,S')∧Post r S':=call_s (f:=d218) rfl ⟨rfl,by decide⟩ (by rw [←e218] at h;exact h)
def s207 (cf:CallF) (a0:D) (S:Store) (Post:PT):Prop:=
 OX (binD .geq .num a0 (.i .u64 4294967296)) fun x1=>jn (fun (y3 y4 y5:D) (S6:Store)=>OX (binD .geq .num y3 (.i .u64 65536)) fun x7=>jn (fun (y9 y10 y11:D) (S12:Store)=>OX (binD .geq .num y9 (.i .u64 256)) fun x13=>jn (fun (y15 y16 y17:D) (S18:Store)=>OX (convD .u8 y15) fun x19=>OX (ixsD (.s [0,1,2,2,3,3,3,3,4,4,4,4,4,4,4,4,5,5,5,5,5,5,5,5,5,5,5,5,5,5,5,5,6,6,6,6,6,6,6,6,6,6,6,6,6,6,6,6,6,6,6,6,6,6,6,6,6,6,6,6,6,6,6,6,7,7,7,7,7,7,7,7,7,7,7,7,7,7,7,7,7,7,7,7,7,7,7,7,7,7,7,7,7,7,7,7,7,7,7,7,7,7,7,7,7,7,7,7,7,7,7,7,7,7,7,7,7,7,7,7,7,7,7,7,7,7,7,7,8,8,8,8,8,8,8,8,8,8,8,8,8,8,8,8,8,8,8,8,8,8,8,8,8,8,8,8,8,8,8,8,8,8,8,8,8,8,8,8,8,8,8,8,8,8,8,8,8,8,8,8,8,8,8,8,8,8,8,8,8,8,8,8,8,8,8,8,8,8,8,8,8,8,8,8,8,8,8,8,8,8,8,8,8,8,8,8,8,8,8,8,8,8,8,8,8,8,8,8,8,8,8,8,8,8,8,8,8,8,8,8,8,8,8,8,8,8,8,8,8,8,8,8,8,8,8,8]) x19) fun x20=>OX (convD .i64 x20) fun x21=>OX (binD .add .num y16 x21) fun x22=>Post x22 S18) fun k14=>WB x13
 (OX (binD .shr .num y9 (.i .u64 8)) fun x23=>OX (binD .add .num y10 (.i .i64 8)) fun x24=>k14 x23 x24 D.top S12)
 (k14 y9 y10 x13 S12)) fun k8=>WB x7
 (OX (binD .shr .num y3 (.i .u64 16)) fun x25=>OX (binD .add .num y4 (.i .i64 16)) fun x26=>k8 x25 x26 D.top S6)
 (k8 y3 y4 x7 S6)) fun k2=>WB x1
 (OX (binD .shr .num a0 (.i .u64 32)) fun x27=>k2 x27 (.i .i64 32) D.top S)
 (k2 a0 (.i .i64 0) x1 S)
theorem e207:wp cf c207 (frame0 d207 [a0]) S (FinK d207.res Post)=s207 cf a0 S Post:=wpS_of (by kernel_rfl)
theorem i207 (a0:D) (r:D) (ha:noRefL (stripL [a0])=true) (hr:noRef r=true) (h:s207 (call dp) (strip a0) [] fun d _=>stripT d=r):isoCall (call dp) 207 [a0]=some r:=iso_s (f:=d207) rfl ⟨rfl,by decide⟩ ha hr (by rw [←e207] at h;exact h)
def s175 (cf:CallF) (a0:D) (S:Store) (Post:PT):Prop:=
 WB (.b false)
 (OX (convD .u32 a0) fun x1=>OX (isoCall cf 206 [x1]) fun x2=>Post x2 S)
 (OX (isoCall cf 207 [a0]) fun x3=>Post x3 S)
theorem e175:wp cf c175 (frame0 d175 [a0]) S (FinK d175.res Post)=s175 cf a0 S Post:=wpS_of (by kernel_rfl)
theorem i175 (a0:D) (r:D) (ha:noRefL (stripL [a0])=true) (hr:noRef r=true) (h:s175 (call dp) (strip a0) [] fun d _=>stripT d=r):isoCall (call dp) 175 [a0]=some r:=iso_s (f:=d175) rfl ⟨rfl,by decide⟩ ha hr (by rw [←e175] at h;exact h)
def s217 (cf:CallF) (a0:D) (S:Store) (Post:PT):Prop:=
 OX (convD .u64 a0) fun x1=>OX (isoCall cf 175 [x1]) fun x2=>OX (binD .shl .num (.i .u64 1) x2) fun x3=>Post x3 S
theorem e217:wp cf c217 (frame0 d217 [a0]) S (FinK d217.res Post)=s217 cf a0 S Post:=wpS_of (by kernel_rfl)
theorem i217 (a0:D) (r:D) (ha:noRefL (stripL [a0])=true) (hr:noRef r=true) (h:s217 (call dp) (strip a0) [] fun d _=>stripT d=r):isoCall (call dp) 217 [a0]=some r:=iso_s (f:=d217) rfl ⟨rfl,by decide⟩ ha hr (by rw [←e217] at h;exact h)
def s200_0 (cf:CallF) (a0 a1 a8 a9 a10 a11 a35:D) (S:Store) (Q:QT):Prop:=
 OX (binD .quo .num a8 (.i .i64 4)) fun x1=>OX (binD .mul .num x1 (.i .i64 2)) fun x2=>OX (binD .add .num a1 x2) fun x3=>OX (binD .add .num x3 (.i .i64 1)) fun x4=>OX (binD .leq .num a11 x4) fun x5=>WB x5
 (OX (cf 218 [a9] S) fun p7=>OX (binD .sub .num a10 (.i .u64 1)) fun x8=>OX (binD .and .num p7.1 x8) fun x9=>OX (convD .i64 x9) fun x10=>OX (binD .geq .num x10 a8) fun x11=>jn (fun (y13 y14 y15 y16 y17 y18 y19 y20:D) (S21:Store)=>OX (binD .add .num y14 y19) fun x22=>OX (binD .add .num y14 y19) fun x23=>OX (iaD 2 y13 x23) fun x24=>OX (ldD S21 2 true x24) fun x25=>OX (iaD 2 y13 y18) fun x26=>OX (ldD S21 2 true x26) fun x27=>OX (iaD 2 y13 y18) fun x28=>OX (stD S21 2 true x28 x25) fun S30=>OX (iaD 2 y13 x22) fun x31=>OX (stD S30 2 true x31 x27) fun S33=>OX (binD .add .num y18 (.i .i64 1)) fun x34=>Q .normal (mkf 67 [(0,y13),(1,y14),(8,y15),(9,y16),(10,y17),(11,x34),(35,.top)]) S33) fun k12=>WB x11
 (OX (binD .sub .num x10 a8) fun x35=>k12 a0 a1 a8 a9 a10 a11 x35 D.top p7.2)
 (k12 a0 a1 a8 a9 a10 a11 x10 x11 p7.2))
 (Q (.exit 0) (mkf 67 [(0,a0),(1,a1),(8,a8),(9,a9),(10,a10),(11,a11),(35,x5)]) S)
theorem e200_0:wp cf c200_0 (fkill (mkf 67 [(0,a0),(1,a1),(8,a8),(9,a9),(10,a10),(11,a11),(35,a35)]) []) S Q=s200_0 cf a0 a1 a8 a9 a10 a11 a35 S Q:=wpS_of (by kernel_rfl)
def s200 (cf:CallF) (a0 a1 a2 a3:D) (S:Store) (Post:PT):Prop:=
 OX (binD .sub .num a2 a1) fun x36=>OX (binD .geq .num x36 (.i .i64 8)) fun x37=>WB x37
 (OX (convD .u64 x36) fun x38=>al [.i .u64 0] S fun x39 S40=>OX (stD S40 1 false x39 x38) fun S42=>OX (isoCall cf 217 [x36]) fun x43=>OX (binD .quo .num x36 (.i .i64 4)) fun x44=>OX (binD .mul .num x44 (.i .i64 2)) fun x45=>OX (binD .add .num a1 x45) fun x46=>OX (binD .sub .num x46 (.i .i64 1)) fun x47=>W cf (.loop [] c200_0) (mkf 67 [(0,a0),(1,a1),(8,x36),(9,x39),(10,x43),(11,x47),(35,.top)]) S42 (Qblk 0 (FinK [] Post)))
 (Post (.tup []) S)
theorem e200:wp cf c200 (frame0 d200 [a0,a1,a2,a3]) S (FinK d200.res Post)=s200 cf a0 a1 a2 a3 S Post:=wpS_of (by kernel_rfl)
theorem f200 (a0 a1 a2 a3:D) (S:Store) (Post:PT) (h:s200 (call dp) a0 a1 a2 a3 S Post):∃ r S',call dp 200 [a0,a1,a2,a3] S=some (r,S')∧Post r S':=call_s (f:=d200) rfl ⟨rfl,by decide⟩ (by rw [←e200] at h;exact h)
def s224 (cf:CallF) (a0 a1 a2 a3 a4:D) (S:Store) (Post:PT):Prop:=
 OX (iaD 2 a0 a2) fun x1=>OX (ldD S 2 true x1) fun x2=>OX (iaD 2 a0 a1) fun x3=>OX (ldD S 2 true x3) fun x4=>OX (fnD a4) fun q6=>OX (isoCall cf q6.1 ([x2,x4]++q6.2)) fun x5=>OX (binD .lss .num x5 (.i .i64 0)) fun x7=>WB x7
 (OX (nilckD a3) fun x8=>OX (ldD S 1 false x8) fun x9=>OX (binD .add .num x9 (.i .i64 1)) fun x10=>OX (nilckD a3) fun x11=>OX (stD S 1 false x11 x10) fun S13=>Post (.tup [a2,a1]) S13)
 (Post (.tup [a1,a2]) S)
theorem e224:wp cf c224 (frame0 d224 [a0,a1,a2,a3,a4]) S (FinK d224.res Post)=s224 cf a0 a1 a2 a3 a4 S Post:=wpS_of (by kernel_rfl)
theorem f224 (a0 a1 a2 a3 a4:D) (S:Store) (Post:PT) (h:s224 (call dp) a0 a1 a2 a3 a4 S Post):∃ r S',call dp 224 [a0,a1,a2,a3,a4] S=some (r,S')∧Post r S':=call_s (f:=d224) rfl ⟨rfl,by decide⟩ (by rw [←e224] at h;exact h)
def s220 (cf:CallF) (a0 a1 a2 a3 a4 a5:D) (S:Store) (Post:PT):Prop:=
 OX (cf 224 [a0,a1,a2,a4,a5] S) fun p2=>OX (extD p2.1 0) fun x3=>OX (extD p2.1 1) fun x4=>OX (cf 224 [a0,x4,a3,a4,a5] p2.2) fun p6=>OX (extD p6.1 0) fun x7=>OX (extD p6.1 1) fun x8=>OX (cf 224 [a0,x3,x7,a4,a5] p6.2) fun p10=>OX (extD p10.1 0) fun x11=>OX (extD p10.1 1) fun x12=>Post x12 p10.2
theorem e220:wp cf c220 (frame0 d220 [a0,a1,a2,a3,a4,a5]) S (FinK d220.res Post)=s220 cf a0 a1 a2 a3 a4 a5 S Post:=wpS_of (by kernel_rfl)
theorem f220 (a0 a1 a2 a3 a4 a5:D) (S:Store) (Post:PT) (h:s220 (call dp) a0 a1 a2 a3 a4 a5 S Post):∃ r S',call dp 220 [a0,a1,a2,a3,a4,a5] S=some (r,S')∧Post r S':=call_s (f:=d220) rfl ⟨rfl,by decide⟩ (by rw [←e220] at h;exact h)
def s201 (cf:CallF) (a0 a1 a2 a3:D) (S:Store) (Post:PT):Prop:=
 OX (binD .sub .num a2 a1) fun x1=>al [.i .i64 0] S fun x2 S3=>OX (binD .quo .num x1 (.i .i64 4)) fun x4=>OX (binD .mul .num x4 (.i .i64 1)) fun x5=>OX (binD .add .num a1 x5) fun x6=>OX (binD .quo .num x1 (.i .i64 4)) fun x7=>OX (binD .mul .num x7 (.i .i64 2)) fun x8=>OX (binD .add .num a1 x8) fun x9=>OX (binD .quo .num x1 (.i .i64 4)) fun x10=>OX (binD .mul .num x10 (.i .i64 3)) fun x11=>OX (binD .add .num a1 x11) fun x12=>OX (binD .geq .num x1 (.i .i64 8)) fun x13=>jn (fun (y15 y16 y17 y18 y19 y20 y21 y22:D) (S23:Store)=>OX (ldD S23 1 false y18) fun x24=>OX (binD .eql .num x24 (.i .i64 0)) fun x25=>WB x25
 (Post (.tup [y20,(.i .i64 1)]) S23)
 (OX (binD .eql .num x24 (.i .i64 12)) fun x26=>WB x26
 (Post (.tup [y20,(.i .i64 2)]) S23)
 (Post (.tup [y20,(.i .i64 0)]) S23))) fun k14=>WB x13
 (OX (binD .geq .num x1 (.i .i64 50)) fun x27=>jn (fun (y29 y30 y31 y32 y33 y34 y35:D) (S36:Store)=>OX (cf 220 [y29,y32,y33,y34,y31,y30] S36) fun p38=>k14 D.top D.top D.top y31 D.top p38.1 D.top D.top p38.2) fun k28=>WB x27
 (OX (cf 219 [a0,x6,x2,a3] S3) fun p40=>OX (cf 219 [a0,x9,x2,a3] p40.2) fun p42=>OX (cf 219 [a0,x12,x2,a3] p42.2) fun p44=>k28 a0 a3 x2 p40.1 p42.1 p44.1 D.top p44.2)
 (k28 a0 a3 x2 x6 x9 x12 x27 S3))
 (k14 a0 a3 x1 x2 x6 x9 x12 x13 S3)
theorem e201:wp cf c201 (frame0 d201 [a0,a1,a2,a3]) S (FinK d201.res Post)=s201 cf a0 a1 a2 a3 S Post:=wpS_of (by kernel_rfl)
theorem f201 (a0 a1 a2 a3:D) (S:Store) (Post:PT) (h:s201 (call dp) a0 a1 a2 a3 S Post):∃ r S',call dp 201 [a0,a1,a2,a3] S=some (r,S')∧Post r S':=call_s (f:=d201) rfl ⟨rfl,by decide⟩ (by rw [←e201] at h;exact h)
def s202_0 (cf:CallF) (a0 a8 a9 a15:D) (S:Store) (Q:QT):Prop:=
 OX (binD .lss .num a8 a9) fun x1=>WB x1
 (OX (iaD 2 a0 a9) fun x2=>OX (ldD S 2 true x2) fun x3=>OX (iaD 2 a0 a8) fun x4=>OX (ldD S 2 true x4) fun x5=>OX (iaD 2 a0 a8) fun x6=>OX (stD S 2 true x6 x3) fun S8=>OX (iaD 2 a0 a9) fun x9=>OX (stD S8 2 true x9 x5) fun S11=>OX (binD .add .num a8 (.i .i64 1)) fun x12=>OX (binD .sub .num a9 (.i .i64 1)) fun x13=>Q .normal (mkf 34 [(0,a0),(8,x12),(9,x13),(15,.top)]) S11)
 (Q (.exit 0) (mkf 34 [(0,a0),(8,a8),(9,a9),(15,x1)]) S)
theorem e202_0:wp cf c202_0 (fkill (mkf 34 [(0,a0),(8,a8),(9,a9),(15,a15)]) []) S Q=s202_0 cf a0 a8 a9 a15 S Q:=wpS_of (by kernel_rfl)
def s202 (cf:CallF) (a0 a1 a2 a3:D) (S:Store) (Post:PT):Prop:=
 OX (binD .sub .num a2 (.i .i64 1)) fun x14=>W cf (.loop [] c202_0) (mkf 34 [(0,a0),(8,a1),(9,x14),(15,.top)]) S (Qblk 0 (FinK [] Post))
theorem e202:wp cf c202 (frame0 d202 [a0,a1,a2,a3]) S (FinK d202.res Post)=s202 cf a0 a1 a2 a3 S Post:=wpS_of (by kernel_rfl)
theorem f202 (a0 a1 a2 a3:D) (S:Store) (Post:PT) (h:s202 (call dp) a0 a1 a2 a3 S Post):∃ r S',call dp 202 [a0,a1,a2,a3] S=some (r,S')∧Post r S':=call_s (f:=d202) rfl ⟨rfl,by decide⟩ (by rw [←e202] at h;exact h)
def s203_r0 (cf:CallF) (a0 a1 a2 a3 a8 a9 a10 a11 a12 a16 a36 a65 a69 a84 a104 a109 a124:D) (S:Store) (Q:QT):Prop:=
 OX (binD .sub .num a2 a9) fun x24=>OX (binD .geq .num x24 (.i .i64 2)) fun x25=>WB x25
 (OX (binD .add .num a9 (.i .i64 1)) fun x26=>W cf (.loop [] c203_0) (mkf 141 [(0,a0),(1,a1),(2,a2),(3,a3),(8,a8),(9,a9),(10,a10),(11,.top),(12,x26),(16,a16),(36,a36),(65,.top),(69,.top),(84,.top),(104,.top),(109,a109),(124,a124)]) S (Qblk 6 Q))
 (Q .normal (mkf 141 [(0,a0),(1,a1),(2,a2),(3,a3),(8,a8),(9,a9),(10,a10),(11,.top),(12,a12),(16,a16),(36,a36),(65,.top),(69,.top),(84,.top),(104,x25),(109,a109),(124,a124)]) S)
def s203_r1 (cf:CallF) (a0 a1 a2 a3 a8 a9 a10 a11 a12 a16 a36 a65 a69 a84 a104 a109 a124:D) (S:Store) (Q:QT):Prop:=
 OX (binD .eql .num a9 a2) fun x50=>WB x50
 (Q .ret (mkf 141 [(0,.top),(1,.top),(2,.top),(3,.top),(8,(.b true)),(9,.top),(10,.top),(11,a11),(12,a12),(16,a16),(36,.top),(65,a65),(69,a69),(84,a84),(104,a104),(109,a109),(124,a124)]) S)
 (OX (binD .sub .num a2 a1) fun x51=>OX (binD .lss .num x51 (.i .i64 50)) fun x52=>WB x52
 (Q .ret (mkf 141 [(0,.top),(1,.top),(2,.top),(3,.top),(8,(.b false)),(9,.top),(10,.top),(11,a11),(12,a12),(16,a16),(36,.top),(65,a65),(69,a69),(84,a84),(104,a104),(109,a109),(124,a124)]) S)
 (OX (binD .sub .num a9 (.i .i64 1)) fun x53=>OX (binD .sub .num a9 (.i .i64 1)) fun x54=>OX (iaD 2 a0 x54) fun x55=>OX (ldD S 2 true x55) fun x56=>OX (iaD 2 a0 a9) fun x57=>OX (ldD S 2 true x57) fun x58=>OX (iaD 2 a0 a9) fun x59=>OX (stD S 2 true x59 x56) fun S61=>OX (iaD 2 a0 x53) fun x62=>OX (stD S61 2 true x62 x58) fun S64=>OX (binD .sub .num a9 a1) fun x65=>OX (binD .geq .num x65 (.i .i64 2)) fun x66=>WB x66
 (OX (binD .sub .num a9 (.i .i64 1)) fun x67=>W cf (.loop [] c203_1) (mkf 141 [(0,a0),(1,a1),(2,a2),(3,a3),(8,a8),(9,a9),(10,a10),(11,x67),(12,a12),(16,a16),(36,.top),(65,.top),(69,a69),(84,a84),(104,a104),(109,a109),(124,a124)]) S64 (Qblk 4 (QS cf c203_r0 Q)))
 (s203_r0 cf a0 a1 a2 a3 a8 a9 a10 a11 a12 a16 D.top x66 a69 a84 a104 a109 a124 S64 Q)))
theorem e203_r1:wp cf c203_r1 (mkf 141 [(0,a0),(1,a1),(2,a2),(3,a3),(8,a8),(9,a9),(10,a10),(11,a11),(12,a12),(16,a16),(36,a36),(65,a65),(69,a69),(84,a84),(104,a104),(109,a109),(124,a124)]) S Q=s203_r1 cf a0 a1 a2 a3 a8 a9 a10 a11 a12 a16 a36 a65 a69 a84 a104 a109 a124 S Q:=wpS_of (by kernel_rfl)
def s203_2 (cf:CallF) (a0 a1 a2 a3 a8 a9 a10 a11 a12 a16 a36 a65 a69 a84 a104 a109 a124:D) (S:Store) (Q:QT):Prop:=
 OX (binD .lss .num a9 a2) fun x69=>OX (gsel x69 true (some a3)) fun x70=>OX (gsel x69 true (some a0)) fun x71=>OX (gsel x69 true (some a9)) fun x72=>OX (gsel x69 true (iaD 2 x71 x72)) fun x73=>OX (gsel x69 true (ldD S 2 true x73)) fun x74=>OX (gsel x69 true (some a0)) fun x75=>OX (gsel x69 true (some a9)) fun x76=>OX (gsel x69 true (binD .sub .num x76 (.i .i64 1))) fun x77=>OX (gsel x69 true (iaD 2 x75 x77)) fun x78=>OX (gsel x69 true (ldD S 2 true x78)) fun x79=>OX (gsel x69 true (match fnD x70 with | some p=>isoCall cf p.1 ([x74,x79]++p.2) | none=>none)) fun x80=>OX (gsel x69 true (binD .lss .num x80 (.i .i64 0))) fun x81=>OX (gsel x69 true (unD .not x81)) fun x82=>OX (pickD x69 x82 (.b false)) fun x83=>WB x83
 (OX (binD .add .num a9 (.i .i64 1)) fun x84=>Q .normal (mkf 141 [(0,a0),(1,a1),(2,a2),(3,a3),(8,a8),(9,x84),(10,a10),(11,a11),(12,a12),(16,.top),(36,.top),(65,a65),(69,a69),(84,a84),(104,a104),(109,a109),(124,a124)]) S)
 (Q (.exit 2) (mkf 141 [(0,a0),(1,a1),(2,a2),(3,a3),(8,a8),(9,a9),(10,a10),(11,a11),(12,a12),(16,.top),(36,x83),(65,a65),(69,a69),(84,a84),(104,a104),(109,a109),(124,a124)]) S)
theorem e203_2:wp cf c203_2 (fkill (mkf 141 [(0,a0),(1,a1),(2,a2),(3,a3),(8,a8),(9,a9),(10,a10),(11,a11),(12,a12),(16,a16),(36,a36),(65,a65),(69,a69),(84,a84),(104,a104),(109,a109),(124,a124)]) [16]) S Q=s203_2 cf a0 a1 a2 a3 a8 a9 a10 a11 a12 a16 a36 a65 a69 a84 a104 a109 a124 S Q:=wpS_of (by kernel_rfl)
def s203_3 (cf:CallF) (a0 a1 a2 a3 a8 a9 a10 a11 a12 a16 a36 a65 a69 a84 a104 a109 a124:D) (S:Store) (Q:QT):Prop:=
 OX (binD .lss .num a10 (.i .i64 5)) fun x85=>WB x85
 (W cf (.loop [16] c203_2) (mkf 141 [(0,a0),(1,a1),(2,a2),(3,a3),(8,a8),(9,a9),(10,a10),(11,a11),(12,a12),(16,x85),(36,a36),(65,a65),(69,a69),(84,a84),(104,a104),(109,a109),(124,a124)]) S (Qblk 2 (QS cf c203_r1 (Qblk 1 (QS cf c203_r2 Q)))))
 (Q (.exit 0) (mkf 141 [(0,a0),(1,a1),(2,a2),(3,a3),(8,a8),(9,a9),(10,a10),(11,a11),(12,a12),(16,x85),(36,a36),(65,a65),(69,a69),(84,a84),(104,a104),(109,a109),(124,a124)]) S)
theorem e203_3:wp cf c203_3 (fkill (mkf 141 [(0,a0),(1,a1),(2,a2),(3,a3),(8,a8),(9,a9),(10,a10),(11,a11),(12,a12),(16,a16),(36,a36),(65,a65),(69,a69),(84,a84),(104,a104),(109,a109),(124,a124)]) []) S Q=s203_3 cf a0 a1 a2 a3 a8 a9 a10 a11 a12 a16 a36 a65 a69 a84 a104 a109 a124 S Q:=wpS_of (by kernel_rfl)
def s203 (cf:CallF) (a0 a1 a2 a3:D) (S:Store) (Post:PT):Prop:=
 OX (binD .add .num a1 (.i .i64 1)) fun x86=>W cf (.loop [] c203_3) (mkf 141 [(0,a0),(1,a1),(2,a2),(3,a3),(8,.top),(9,x86),(10,(.i .i64 0)),(11,.top),(12,.top),(16,.top),(36,.top),(65,.top),(69,.top),(84,.top),(104,.top),(109,.top),(124,.top)]) S (Qblk 0 (QS cf c203_r3 (FinK [.t 8] Post)))
theorem e203:wp cf c203 (frame0 d203 [a0,a1,a2,a3]) S (FinK d203.res Post)=s203 cf a0 a1 a2 a3 S Post:=wpS_of (by kernel_rfl)
theorem f203 (a0 a1 a2 a3:D) (S:Store) (Post:PT) (h:s203 (call dp) a0 a1 a2 a3 S Post):∃ r S',call dp 203 [a0,a1,a2,a3] S=some (r,S')∧Post r S':=call_s (f:=d203) rfl ⟨rfl,by decide⟩ (by rw [←e203] at h;exact h)
def s204_r0 (cf:CallF) (a0 a1 a4 a10 a11 a12 a47 a65 a70:D) (S:Store) (Q:QT):Prop:=
 OX (binD .gtr .num a11 a12) fun x1=>WB x1
 (Q (.exit 0) (mkf 90 [(0,a0),(1,a1),(4,a4),(10,a10),(11,a11),(12,a12),(47,a47),(65,.top),(70,x1)]) S)
 (OX (iaD 2 a0 a12) fun x2=>OX (ldD S 2 true x2) fun x3=>OX (iaD 2 a0 a11) fun x4=>OX (ldD S 2 true x4) fun x5=>OX (iaD 2 a0 a11) fun x6=>OX (stD S 2 true x6 x3) fun S8=>OX (iaD 2 a0 a12) fun x9=>OX (stD S8 2 true x9 x5) fun S11=>OX (binD .add .num a11 (.i .i64 1)) fun x12=>OX (binD .sub .num a12 (.i .i64 1)) fun x13=>Q .normal (mkf 90 [(0,a0),(1,a1),(4,a4),(10,a10),(11,x12),(12,x13),(47,a47),(65,.top),(70,.top)]) S11)
theorem e204_r0:wp cf c204_r0 (mkf 90 [(0,a0),(1,a1),(4,a4),(10,a10),(11,a11),(12,a12),(47,a47),(65,a65),(70,a70)]) S Q=s204_r0 cf a0 a1 a4 a10 a11 a12 a47 a65 a70 S Q:=wpS_of (by kernel_rfl)
def s204_0 (cf:CallF) (a0 a1 a4 a10 a11 a12 a47 a65 a70:D) (S:Store) (Q:QT):Prop:=
 OX (binD .leq .num a11 a12) fun x14=>OX (gsel x14 true (some a4)) fun x15=>OX (gsel x14 true (some a0)) fun x16=>OX (gsel x14 true (some a1)) fun x17=>OX (gsel x14 true (iaD 2 x16 x17)) fun x18=>OX (gsel x14 true (ldD S 2 true x18)) fun x19=>OX (gsel x14 true (some a0)) fun x20=>OX (gsel x14 true (some a12)) fun x21=>OX (gsel x14 true (iaD 2 x20 x21)) fun x22=>OX (gsel x14 true (ldD S 2 true x22)) fun x23=>OX (gsel x14 true (match fnD x15 with | some p=>isoCall cf p.1 ([x19,x23]++p.2) | none=>none)) fun x24=>OX (gsel x14 true (binD .lss .num x24 (.i .i64 0))) fun x25=>OX (pickD x14 x25 (.b false)) fun x26=>WB x26
 (OX (binD .sub .num a12 (.i .i64 1)) fun x27=>Q .normal (mkf 90 [(0,a0),(1,a1),(4,a4),(10,a10),(11,a11),(12,x27),(47,.top),(65,.top),(70,a70)]) S)
 (Q (.exit 4) (mkf 90 [(0,a0),(1,a1),(4,a4),(10,a10),(11,a11),(12,a12),(47,.top),(65,x26),(70,a70)]) S)
theorem e204_0:wp cf c204_0 (fkill (mkf 90 [(0,a0),(1,a1),(4,a4),(10,a10),(11,a11),(12,a12),(47,a47),(65,a65),(70,a70)]) [47]) S Q=s204_0 cf a0 a1 a4 a10 a11 a12 a47 a65 a70 S Q:=wpS_of (by kernel_rfl)
def s204_r1 (cf:CallF) (a0 a1 a4 a10 a11 a12 a47 a65 a70:D) (S:Store) (Q:QT):Prop:=
 W cf (.loop [47] c204_0) (mkf 90 [(0,a0),(1,a1),(4,a4),(10,a10),(11,a11),(12,a12),(47,a47),(65,a65),(70,a70)]) S (Qblk 4 (QS cf c204_r0 Q))
theorem e204_r1:wp cf c204_r1 (mkf 90 [(0,a0),(1,a1),(4,a4),(10,a10),(11,a11),(12,a12),(47,a47),(65,a65),(70,a70)]) S Q=s204_r1 cf a0 a1 a4 a10 a11 a12 a47 a65 a70 S Q:=wpS_of (by kernel_rfl)
def s204_1 (cf:CallF) (a0 a1 a4 a10 a11 a12 a47 a65 a70:D) (S:Store) (Q:QT):Prop:=
 OX (binD .leq .num a11 a12) fun x28=>OX (gsel x28 true (some a4)) fun x29=>OX (gsel x28 true (some a0)) fun x30=>OX (gsel x28 true (some a1)) fun x31=>OX (gsel x28 true (iaD 2 x30 x31)) fun x32=>OX (gsel x28 true (ldD S 2 true x32)) fun x33=>OX (gsel x28 true (some a0)) fun x34=>OX (gsel x28 true (some a11)) fun x35=>OX (gsel x28 true (iaD 2 x34 x35)) fun x36=>OX (gsel x28 true (ldD S 2 true x36)) fun x37=>OX (gsel x28 true (match fnD x29 with | some p=>isoCall cf p.1 ([x33,x37]++p.2) | none=>none)) fun x38=>OX (gsel x28 true (binD .lss .num x38 (.i .i64 0))) fun x39=>OX (gsel x28 true (unD .not x39)) fun x40=>OX (pickD x28 x40 (.b false)) fun x41=>WB x41
 (OX (binD .add .num a11 (.i .i64 1)) fun x42=>Q .normal (mkf 90 [(0,a0),(1,a1),(4,a4),(10,a10),(11,x42),(12,a12),(47,.top),(65,a65),(70,a70)]) S)
 (Q (.exit 2) (mkf 90 [(0,a0),(1,a1),(4,a4),(10,a10),(11,a11),(12,a12),(47,x41),(65,a65),(70,a70)]) S)
theorem e204_1:wp cf c204_1 (fkill (mkf 90 [(0,a0),(1,a1),(4,a4),(10,a10),(11,a11),(12,a12),(47,a47),(65,a65),(70,a70)]) []) S Q=s204_1 cf a0 a1 a4 a10 a11 a12 a47 a65 a70 S Q:=wpS_of (by kernel_rfl)
def s204_r2 (cf:CallF) (a0 a1 a4 a10 a11 a12 a47 a65 a70:D) (S:Store) (Q:QT):Prop:=
 Q .ret (mkf 90 [(0,.top),(1,.top),(4,.top),(10,a11),(11,.top),(12,.top),(47,a47),(65,a65),(70,.top)]) S
theorem e204_r2:wp cf c204_r2 (mkf 90 [(0,a0),(1,a1),(4,a4),(10,a10),(11,a11),(12,a12),(47,a47),(65,a65),(70,a70)]) S Q=s204_r2 cf a0 a1 a4 a10 a11 a12 a47 a65 a70 S Q:=wpS_of (by kernel_rfl)
def s204_2 (cf:CallF) (a0 a1 a4 a10 a11 a12 a47 a65 a70:D) (S:Store) (Q:QT):Prop:=
 W cf (.loop [] c204_1) (mkf 90 [(0,a0),(1,a1),(4,a4),(10,a10),(11,a11),(12,a12),(47,a47),(65,a65),(70,a70)]) S (Qblk 2 (QS cf c204_r1 (Qblk 1 Q)))
theorem e204_2:wp cf c204_2 (fkill (mkf 90 [(0,a0),(1,a1),(4,a4),(10,a10),(11,a11),(12,a12),(47,a47),(65,a65),(70,a70)]) []) S Q=s204_2 cf a0 a1 a4 a10 a11 a12 a47 a65 a70 S Q:=wpS_of (by kernel_rfl)
def s204 (cf:CallF) (a0 a1 a2 a3 a4:D) (S:Store) (Post:PT):Prop:=
 OX (iaD 2 a0 a3) fun x43=>OX (ldD S 2 true x43) fun x44=>OX (iaD 2 a0 a1) fun x45=>OX (ldD S 2 true x45) fun x46=>OX (iaD 2 a0 a1) fun x47=>OX (stD S 2 true x47 x44) fun S49=>OX (iaD 2 a0 a3) fun x50=>OX (stD S49 2 true x50 x46) fun S52=>OX (binD .add .num a1 (.i .i64 1)) fun x53=>OX (binD .sub .num a2 (.i .i64 1)) fun x54=>W cf (.loop [] c204_2) (mkf 90 [(0,a0),(1,a1),(4,a4),(10,.top),(11,x53),(12,x54),(47,.top),(65,.top),(70,.top)]) S52 (Qblk 0 (QS cf c204_r2 (FinK [.t 10] Post)))
theorem e204:wp cf c204 (frame0 d204 [a0,a1,a2,a3,a4]) S (FinK d204.res Post)=s204 cf a0 a1 a2 a3 a4 S Post:=wpS_of (by kernel_rfl)
theorem f204 (a0 a1 a2 a3 a4:D) (S:Store) (Post:PT) (h:s204 (call dp) a0 a1 a2 a3 a4 S Post):∃ r S',call dp 204 [a0,a1,a2,a3,a4] S=some (r,S')∧Post r S':=call_s (f:=d204) rfl ⟨rfl,by decide⟩ (by rw [←e204] at h;exact h)
def s205_r0 (cf:CallF) (a0 a1 a4 a10 a11 a12 a13 a47 a66 a120 a139 a144:D) (S:Store) (Q:QT):Prop:=
 OX (binD .gtr .num a12 a13) fun x1=>WB x1
 (Q (.exit 4) (mkf 178 [(0,a0),(1,a1),(4,a4),(10,a10),(11,a11),(12,a12),(13,a13),(47,a47),(66,a66),(120,a120),(139,.top),(144,x1)]) S)
 (OX (iaD 2 a0 a13) fun x2=>OX (ldD S 2 true x2) fun x3=>OX (iaD 2 a0 a12) fun x4=>OX (ldD S 2 true x4) fun x5=>OX (iaD 2 a0 a12) fun x6=>OX (stD S 2 true x6 x3) fun S8=>OX (iaD 2 a0 a13) fun x9=>OX (stD S8 2 true x9 x5) fun S11=>OX (binD .add .num a12 (.i .i64 1)) fun x12=>OX (binD .sub .num a13 (.i .i64 1)) fun x13=>Q .normal (mkf 178 [(0,a0),(1,a1),(4,a4),(10,a10),(11,a11),(12,x12),(13,x13),(47,a47),(66,a66),(120,a120),(139,.top),(144,.top)]) S11)
theorem e205_r0:wp cf c205_r0 (mkf 178 [(0,a0),(1,a1),(4,a4),(10,a10),(11,a11),(12,a12),(13,a13),(47,a47),(66,a66),(120,a120),(139,a139),(144,a144)]) S Q=s205_r0 cf a0 a1 a4 a10 a11 a12 a13 a47 a66 a120 a139 a144 S Q:=wpS_of (by kernel_rfl)
def s205_0 (cf:CallF) (a0 a1 a4 a10 a11 a12 a13 a47 a66 a120 a139 a144:D) (S:Store) (Q:QT):Prop:=
 OX (binD .leq .num a12 a13) fun x14=>OX (gsel x14 true (some a4)) fun x15=>OX (gsel x14 true (some a0)) fun x16=>OX (gsel x14 true (some a13)) fun x17=>OX (gsel x14 true (iaD 2 x16 x17)) fun x18=>OX (gsel x14 true (ldD S 2 true x18)) fun x19=>OX (gsel x14 true (some a0)) fun x20=>OX (gsel x14 true (some a1)) fun x21=>OX (gsel x14 true (iaD 2 x20 x21)) fun x22=>OX (gsel x14 true (ldD S 2 true x22)) fun x23=>OX (gsel x14 true (match fnD x15 with | some p=>isoCall cf p.1 ([x19,x23]++p.2) | none=>none)) fun x24=>OX (gsel x14 true (binD .lss .num x24 (.i .i64 0))) fun x25=>OX (gsel x14 true (unD .not x25)) fun x26=>OX (pickD x14 x26 (.b false)) fun x27=>WB x27
 (OX (binD .sub .num a13 (.i .i64 1)) fun x28=>Q .normal (mkf 178 [(0,a0),(1,a1),(4,a4),(10,a10),(11,a11),(12,a12),(13,x28),(47,a47),(66,a66),(120,.top),(139,.top),(144,a144)]) S)
 (Q (.exit 8) (mkf 178 [(0,a0),(1,a1),(4,a4),(10,a10),(11,a11),(12,a12),(13,a13),(47,a47),(66,a66),(120,.top),(139,x27),(144,a144)]) S)
theorem e205_0:wp cf c205_0 (fkill (mkf 178 [(0,a0),(1,a1),(4,a4),(10,a10),(11,a11),(12,a12),(13,a13),(47,a47),(66,a66),(120,a120),(139,a139),(144,a144)]) [120]) S Q=s205_0 cf a0 a1 a4 a10 a11 a12 a13 a47 a66 a120 a139 a144 S Q:=wpS_of (by kernel_rfl)
def s205_r1 (cf:CallF) (a0 a1 a4 a10 a11 a12 a13 a47 a66 a120 a139 a144:D) (S:Store) (Q:QT):Prop:=
 W cf (.loop [120] c205_0) (mkf 178 [(0,a0),(1,a1),(4,a4),(10,a10),(11,a11),(12,a12),(13,a13),(47,a47),(66,a66),(120,a120),(139,a139),(144,a144)]) S (Qblk 8 (QS cf c205_r0 Q))
theorem e205_r1:wp cf c205_r1 (mkf 178 [(0,a0),(1,a1),(4,a4),(10,a10),(11,a11),(12,a12),(13,a13),(47,a47),(66,a66),(120,a120),(139,a139),(144,a144)]) S Q=s205_r1 cf a0 a1 a4 a10 a11 a12 a13 a47 a66 a120 a139 a144 S Q:=wpS_of (by kernel_rfl)
def s205_1 (cf:CallF) (a0 a1 a4 a10 a11 a12 a13 a47 a66 a120 a139 a144:D) (S:Store) (Q:QT):Prop:=
 OX (binD .leq .num a12 a13) fun x29=>OX (gsel x29 true (some a4)) fun x30=>OX (gsel x29 true (some a0)) fun x31=>OX (gsel x29 true (some a12)) fun x32=>OX (gsel x29 true (iaD 2 x31 x32)) fun x33=>OX (gsel x29 true (ldD S 2 true x33)) fun x34=>OX (gsel x29 true (some a0)) fun x35=>OX (gsel x29 true (some a1)) fun x36=>OX (gsel x29 true (iaD 2 x35 x36)) fun x37=>OX (gsel x29 true (ldD S 2 true x37)) fun x38=>OX (gsel x29 true (match fnD x30 with | some p=>isoCall cf p.1 ([x34,x38]++p.2) | none=>none)) fun x39=>OX (gsel x29 true (binD .lss .num x39 (.i .i64 0))) fun x40=>OX (pickD x29 x40 (.b false)) fun x41=>WB x41
 (OX (binD .add .num a12 (.i .i64 1)) fun x42=>Q .normal (mkf 178 [(0,a0),(1,a1),(4,a4),(10,a10),(11,a11),(12,x42),(13,a13),(47,a47),(66,a66),(120,.top),(139,a139),(144,a144)]) S)
 (Q (.exit 6) (mkf 178 [(0,a0),(1,a1),(4,a4),(10,a10),(11,a11),(12,a12),(13,a13),(47,a47),(66,a66),(120,x41),(139,a139),(144,a144)]) S)
theorem e205_1:wp cf c205_1 (fkill (mkf 178 [(0,a0),(1,a1),(4,a4),(10,a10),(11,a11),(12,a12),(13,a13),(47,a47),(66,a66),(120,a120),(139,a139),(144,a144)]) []) S Q=s205_1 cf a0 a1 a4 a10 a11 a12 a13 a47 a66 a120 a139 a144 S Q:=wpS_of (by kernel_rfl)
def s205_r2 (cf:CallF) (a0 a1 a4 a10 a11 a12 a13 a47 a66 a120 a139 a144:D) (S:Store) (Q:QT):Prop:=
 OX (iaD 2 a0 a1) fun x43=>OX (ldD S 2 true x43) fun x44=>OX (iaD 2 a0 a13) fun x45=>OX (ldD S 2 true x45) fun x46=>OX (iaD 2 a0 a13) fun x47=>OX (stD S 2 true x47 x44) fun S49=>OX (iaD 2 a0 a1) fun x50=>OX (stD S49 2 true x50 x46) fun S52=>Q .ret (mkf 178 [(0,.top),(1,.top),(4,.top),(10,a13),(11,(.b false)),(12,.top),(13,.top),(47,a47),(66,a66),(120,a120),(139,a139),(144,.top)]) S52
theorem e205_r2:wp cf c205_r2 (mkf 178 [(0,a0),(1,a1),(4,a4),(10,a10),(11,a11),(12,a12),(13,a13),(47,a47),(66,a66),(120,a120),(139,a139),(144,a144)]) S Q=s205_r2 cf a0 a1 a4 a10 a11 a12 a13 a47 a66 a120 a139 a144 S Q:=wpS_of (by kernel_rfl)
def s205_2 (cf:CallF) (a0 a1 a4 a10 a11 a12 a13 a47 a66 a120 a139 a144:D) (S:Store) (Q:QT):Prop:=
 W cf (.loop [] c205_1) (mkf 178 [(0,a0),(1,a1),(4,a4),(10,a10),(11,a11),(12,a12),(13,a13),(47,a47),(66,a66),(120,a120),(139,a139),(144,a144)]) S (Qblk 6 (QS cf c205_r1 (Qblk 5 Q)))
theorem e205_2:wp cf c205_2 (fkill (mkf 178 [(0,a0),(1,a1),(4,a4),(10,a10),(11,a11),(12,a12),(13,a13),(47,a47),(66,a66),(120,a120),(139,a139),(144,a144)]) []) S Q=s205_2 cf a0 a1 a4 a10 a11 a12 a13 a47 a66 a120 a139 a144 S Q:=wpS_of (by kernel_rfl)
def s205_r3 (cf:CallF) (a0 a1 a4 a10 a11 a12 a13 a47 a66 a120 a139 a144:D) (S:Store) (Q:QT):Prop:=
 OX (binD .gtr .num a12 a13) fun x53=>WB x53
 (OX (iaD 2 a0 a1) fun x54=>OX (ldD S 2 true x54) fun x55=>OX (iaD 2 a0 a13) fun x56=>OX (ldD S 2 true x56) fun x57=>OX (iaD 2 a0 a13) fun x58=>OX (stD S 2 true x58 x55) fun S60=>OX (iaD 2 a0 a1) fun x61=>OX (stD S60 2 true x61 x57) fun S63=>Q .ret (mkf 178 [(0,.top),(1,.top),(4,.top),(10,a13),(11,(.b true)),(12,.top),(13,.top),(47,a47),(66,.top),(120,a120),(139,a139),(144,a144)]) S63)
 (OX (iaD 2 a0 a13) fun x64=>OX (ldD S 2 true x64) fun x65=>OX (iaD 2 a0 a12) fun x66=>OX (ldD S 2 true x66) fun x67=>OX (iaD 2 a0 a12) fun x68=>OX (stD S 2 true x68 x65) fun S70=>OX (iaD 2 a0 a13) fun x71=>OX (stD S70 2 true x71 x67) fun S73=>OX (binD .add .num a12 (.i .i64 1)) fun x74=>OX (binD .sub .num a13 (.i .i64 1)) fun x75=>W cf (.loop [] c205_2) (mkf 178 [(0,a0),(1,a1),(4,a4),(10,a10),(11,a11),(12,x74),(13,x75),(47,a47),(66,.top),(120,a120),(139,a139),(144,a144)]) S73 (Qblk 4 (QS cf c205_r2 Q)))
theorem e205_r3:wp cf c205_r3 (mkf 178 [(0,a0),(1,a1),(4,a4),(10,a10),(11,a11),(12,a12),(13,a13),(47,a47),(66,a66),(120,a120),(139,a139),(144,a144)]) S Q=s205_r3 cf a0 a1 a4 a10 a11 a12 a13 a47 a66 a120 a139 a144 S Q:=wpS_of (by kernel_rfl)
def s205_3 (cf:CallF) (a0 a1 a4 a10 a11 a12 a13 a47 a66 a120 a139 a144:D) (S:Store) (Q:QT):Prop:=
 OX (binD .leq .num a12 a13) fun x76=>OX (gsel x76 true (some a4)) fun x77=>OX (gsel x76 true (some a0)) fun x78=>OX (gsel x76 true (some a13)) fun x79=>OX (gsel x76 true (iaD 2 x78 x79)) fun x80=>OX (gsel x76 true (ldD S 2 true x80)) fun x81=>OX (gsel x76 true (some a0)) fun x82=>OX (gsel x76 true (some a1)) fun x83=>OX (gsel x76 true (iaD 2 x82 x83)) fun x84=>OX (gsel x76 true (ldD S 2 true x84)) fun x85=>OX (gsel x76 true (match fnD x77 with | some p=>isoCall cf p.1 ([x81,x85]++p.2) | none=>none)) fun x86=>OX (gsel x76 true (binD .lss .num x86 (.i .i64 0))) fun x87=>OX (gsel x76 true (unD .not x87)) fun x88=>OX (pickD x76 x88 (.b false)) fun x89=>WB x89
 (OX (binD .sub .num a13 (.i .i64 1)) fun x90=>Q .normal (mkf 178 [(0,a0),(1,a1),(4,a4),(10,a10),(11,a11),(12,a12),(13,x90),(47,.top),(66,.top),(120,a120),(139,a139),(144,a144)]) S)
 (Q (.exit 2) (mkf 178 [(0,a0),(1,a1),(4,a4),(10,a10),(11,a11),(12,a12),(13,a13),(47,.top),(66,x89),(120,a120),(139,a139),(144,a144)]) S)
theorem e205_3:wp cf c205_3 (fkill (mkf 178 [(0,a0),(1,a1),(4,a4),(10,a10),(11,a11),(12,a12),(13,a13),(47,a47),(66,a66),(120,a120),(139,a139),(144,a144)]) [47]) S Q=s205_3 cf a0 a1 a4 a10 a11 a12 a13 a47 a66 a120 a139 a144 S Q:=wpS_of (by kernel_rfl)
def s205_r4 (cf:CallF) (a0 a1 a4 a10 a11 a12 a13 a47 a66 a120 a139 a144:D) (S:Store) (Q:QT):Prop:=
 W cf (.loop [47] c205_3) (mkf 178 [(0,a0),(1,a1),(4,a4),(10,a10),(11,a11),(12,a12),(13,a13),(47,a47),(66,a66),(120,a120),(139,a139),(144,a144)]) S (Qblk 2 (QS cf c205_r3 Q))
theorem e205_r4:wp cf c205_r4 (mkf 178 [(0,a0),(1,a1),(4,a4),(10,a10),(11,a11),(12,a12),(13,a13),(47,a47),(66,a66),(120,a120),(139,a139),(144,a144)]) S Q=s205_r4 cf a0 a1 a4 a10 a11 a12 a13 a47 a66 a120 a139 a144 S Q:=wpS_of (by kernel_rfl)
def s205_4 (cf:CallF) (a0 a1 a4 a10 a11 a12 a13 a47 a66 a120 a139 a144:D) (S:Store) (Q:QT):Prop:=
 OX (binD .leq .num a12 a13) fun x91=>OX (gsel x91 true (some a4)) fun x92=>OX (gsel x91 true (some a0)) fun x93=>OX (gsel x91 true (some a12)) fun x94=>OX (gsel x91 true (iaD 2 x93 x94)) fun x95=>OX (gsel x91 true (ldD S 2 true x95)) fun x96=>OX (gsel x91 true (some a0)) fun x97=>OX (gsel x91 true (some a1)) fun x98=>OX (gsel x91 true (iaD 2 x97 x98)) fun x99=>OX (gsel x91 true (ldD S 2 true x99)) fun x100=>OX (gsel x91 true (match fnD x92 with | some p=>isoCall cf p.1 ([x96,x100]++p.2) | none=>none)) fun x101=>OX (gsel x91 true (binD .lss .num x101 (.i .i64 0))) fun x102=>OX (pickD x91 x102 (.b false)) fun x103=>WB x103
 (OX (binD .add .num a12 (.i .i64 1)) fun x104=>Q .normal (mkf 178 [(0,a0),(1,a1),(4,a4),(10,a10),(11,a11),(12,x104),(13,a13),(47,.top),(66,a66),(120,a120),(139,a139),(144,a144)]) S)
 (Q (.exit 0) (mkf 178 [(0,a0),(1,a1),(4,a4),(10,a10),(11,a11),(12,a12),(13,a13),(47,x103),(66,a66),(120,a120),(139,a139),(144,a144)]) S)
theorem e205_4:wp cf c205_4 (fkill (mkf 178 [(0,a0),(1,a1),(4,a4),(10,a10),(11,a11),(12,a12),(13,a13),(47,a47),(66,a66),(120,a120),(139,a139),(144,a144)]) []) S Q=s205_4 cf a0 a1 a4 a10 a11 a12 a13 a47 a66 a120 a139 a144 S Q:=wpS_of (by kernel_rfl)
def s205 (cf:CallF) (a0 a1 a2 a3 a4:D) (S:Store) (Post:PT):Prop:=
 OX (iaD 2 a0 a3) fun x105=>OX (ldD S 2 true x105) fun x106=>OX (iaD 2 a0 a1) fun x107=>OX (ldD S 2 true x107) fun x108=>OX (iaD 2 a0 a1) fun x109=>OX (stD S 2 true x109 x106) fun S111=>OX (iaD 2 a0 a3) fun x112=>OX (stD S111 2 true x112 x108) fun S114=>OX (binD .add .num a1 (.i .i64 1)) fun x115=>OX (binD .sub .num a2 (.i .i64 1)) fun x116=>W cf (.loop [] c205_4) (mkf 178 [(0,a0),(1,a1),(4,a4),(10,.top),(11,.top),(12,x115),(13,x116),(47,.top),(66,.top),(120,.top),(139,.top),(144,.top)]) S114 (Qblk 0 (QS cf c205_r4 (FinK [.t 10,.t 11] Post)))
theorem e205:wp cf c205 (frame0 d205 [a0,a1,a2,a3,a4]) S (FinK d205.res Post)=s205 cf a0 a1 a2 a3 a4 S Post:=wpS_of (by kernel_rfl)
theorem f205 (a0 a1 a2 a3 a4:D) (S:Store) (Post:PT) (h:s205 (call dp) a0 a1 a2 a3 a4 S Post):∃ r S',call dp 205 [a0,a1,a2,a3,a4] S=some (r,S')∧Post r S':=call_s (f:=d205) rfl ⟨rfl,by decide⟩ (by rw [←e205] at h;exact h)
def s174_0 (cf:CallF) (a0 a1 a2 a3 a4 a10 a11 a12 a13 a80:D) (S:Store) (Q:QT):Prop:=
 OX (binD .sub .num a2 a1) fun x1=>OX (binD .leq .num x1 (.i .i64 12)) fun x2=>WB x2
 (OX (cf 198 [a0,a1,a2,a4] S) fun p4=>Q .ret (mkf 148 [(0,.top),(1,.top),(2,.top),(3,.top),(4,.top),(10,.top),(11,.top),(12,.top),(13,a13),(80,a80)]) p4.2)
 (OX (binD .eql .num a3 (.i .i64 0)) fun x5=>WB x5
 (OX (cf 199 [a0,a1,a2,a4] S) fun p7=>Q .ret (mkf 148 [(0,.top),(1,.top),(2,.top),(3,.top),(4,.top),(10,.top),(11,.top),(12,.top),(13,a13),(80,a80)]) p7.2)
 (OX (unD .not a10) fun x8=>jn (fun (y10 y11 y12 y13 y14 y15 y16 y17 y18 y19 y20:D) (S21:Store)=>OX (cf 201 [y10,y11,y12,y14] S21) fun p23=>OX (extD p23.1 0) fun x24=>OX (extD p23.1 1) fun x25=>OX (binD .eql .num x25 (.i .i64 2)) fun x26=>jn (fun (y28 y29 y30 y31 y32 y33 y34 y35 y36 y37 y38 y39:D) (S40:Store)=>OX (gsel y33 true (some y34)) fun x41=>OX (pickD y33 x41 (.b false)) fun x42=>OX (gsel x42 true (some y37)) fun x43=>OX (gsel x42 true (binD .eql .num x43 (.i .i64 1))) fun x44=>OX (pickD x42 x44 (.b false)) fun x45=>jn (fun (y47 y48 y49 y50 y51 y52 y53 y54 y55 y56 y57:D) (S58:Store)=>OX (binD .gtr .num y48 (.i .i64 0)) fun x59=>OX (gsel x59 true (some y51)) fun x60=>OX (gsel x59 true (some y47)) fun x61=>OX (gsel x59 true (some y48)) fun x62=>OX (gsel x59 true (binD .sub .num x62 (.i .i64 1))) fun x63=>OX (gsel x59 true (iaD 2 x61 x63)) fun x64=>OX (gsel x59 true (ldD S58 2 true x64)) fun x65=>OX (gsel x59 true (some y47)) fun x66=>OX (gsel x59 true (some y55)) fun x67=>OX (gsel x59 true (iaD 2 x66 x67)) fun x68=>OX (gsel x59 true (ldD S58 2 true x68)) fun x69=>OX (gsel x59 true (match fnD x60 with | some p=>isoCall cf p.1 ([x65,x69]++p.2) | none=>none)) fun x70=>OX (gsel x59 true (binD .lss .num x70 (.i .i64 0))) fun x71=>OX (gsel x59 true (unD .not x71)) fun x72=>OX (pickD x59 x72 (.b false)) fun x73=>WB x73
 (OX (cf 204 [y47,y48,y49,y55,y51] S58) fun p75=>Q .normal (mkf 148 [(0,y47),(1,p75.1),(2,y49),(3,y50),(4,y51),(10,y52),(11,y53),(12,.top),(13,.top),(80,.top)]) p75.2)
 (OX (cf 205 [y47,y48,y49,y55,y51] S58) fun p77=>OX (extD p77.1 0) fun x78=>OX (extD p77.1 1) fun x79=>OX (binD .sub .num x78 y48) fun x80=>OX (binD .sub .num y49 x78) fun x81=>OX (binD .quo .num y54 (.i .i64 8)) fun x82=>OX (binD .lss .num x80 x81) fun x83=>jn (fun (y85 y86 y87 y88 y89 y90 y91:D) (S92:Store)=>Q .normal (mkf 148 [(0,y85),(1,y86),(2,y87),(3,y88),(4,y89),(10,y90),(11,y91),(12,.top),(13,.top),(80,.top)]) S92) fun k84=>WB x83
 (OX (binD .geq .num x80 x82) fun x93=>OX (cf 174 [y47,y48,x78,y50,y51] p77.2) fun p95=>OX (binD .add .num x78 (.i .i64 1)) fun x96=>k84 y47 x96 y49 y50 y51 x93 x79 p95.2)
 (OX (binD .geq .num x81 x82) fun x97=>OX (binD .add .num x78 (.i .i64 1)) fun x98=>OX (cf 174 [y47,x98,y49,y50,y51] p77.2) fun p100=>k84 y47 y48 x78 y50 y51 x97 x79 p100.2))) fun k46=>WB x45
 (OX (cf 203 [y28,y29,y30,y32] S40) fun p102=>WB p102.1
 (Q .ret (mkf 148 [(0,y28),(1,y29),(2,y30),(3,y31),(4,y32),(10,y33),(11,y34),(12,y35),(13,y36),(80,p102.1)]) p102.2)
 (k46 y28 y29 y30 y31 y32 y33 y34 y35 y36 D.top p102.1 p102.2))
 (k46 y28 y29 y30 y31 y32 y33 y34 y35 y36 x45 y39 S40)) fun k27=>WB x26
 (OX (cf 202 [y10,y11,y12,y14] p23.2) fun p104=>OX (binD .sub .num y12 (.i .i64 1)) fun x105=>OX (binD .sub .num x24 y11) fun x106=>OX (binD .sub .num x105 x106) fun x107=>k27 y10 y11 y12 y13 y14 y15 y16 y17 x107 (.i .i64 1) D.top y20 p104.2)
 (k27 y10 y11 y12 y13 y14 y15 y16 y17 x24 x25 x26 y20 p23.2)) fun k9=>WB x8
 (OX (cf 200 [a0,a1,a2,a4] S) fun p109=>OX (binD .sub .num a3 (.i .i64 1)) fun x110=>k9 a0 a1 a2 x110 a4 a10 a11 x1 a13 D.top a80 p109.2)
 (k9 a0 a1 a2 a3 a4 a10 a11 x1 a13 x8 a80 S)))
theorem e174_0:wp cf c174_0 (fkill (mkf 148 [(0,a0),(1,a1),(2,a2),(3,a3),(4,a4),(10,a10),(11,a11),(12,a12),(13,a13),(80,a80)]) []) S Q=s174_0 cf a0 a1 a2 a3 a4 a10 a11 a12 a13 a80 S Q:=wpS_of (by kernel_rfl)
def s174 (cf:CallF) (a0 a1 a2 a3 a4:D) (S:Store) (Post:PT):Prop:=
 W cf (.loop [] c174_0) (mkf 148 [(0,a0),(1,a1),(2,a2),(3,a3),(4,a4),(10,(.b true)),(11,(.b true)),(12,.top),(13,.top),(80,.top)]) S (Qblk 0 (FinK [] Post))
theorem e174:wp cf c174 (frame0 d174 [a0,a1,a2,a3,a4]) S (FinK d174.res Post)=s174 cf a0 a1 a2 a3 a4 S Post:=wpS_of (by kernel_rfl)
theorem f174 (a0 a1 a2 a3 a4:D) (S:Store) (Post:PT) (h:s174 (call dp) a0 a1 a2 a3 a4 S Post):∃ r S',call dp 174 [a0,a1,a2,a3,a4] S=some (r,S')∧Post r S':=call_s (f:=d174) rfl ⟨rfl,by decide⟩ (by rw [←e174] at h;exact h)
def s122 (cf:CallF) (a0 a1:D) (S:Store) (Post:PT):Prop:=
 OX (lenD false a0) fun x1=>OX (convD .u64 x1) fun x2=>OX (isoCall cf 175 [x2]) fun x3=>OX (cf 174 [a0,(.i .i64 0),x1,x3,a1] S) fun p5=>Post (.tup []) p5.2
theorem e122:wp cf c122 (frame0 d122 [a0,a1]) S (FinK d122.res Post)=s122 cf a0 a1 S Post:=wpS_of (by kernel_rfl)
theorem f122 (a0 a1:D) (S:Store) (Post:PT) (h:s122 (call dp) a0 a1 S Post):∃ r S',call dp 122 [a0,a1] S=some (r,S')∧Post r S':=call_s (f:=d122) rfl ⟨rfl,by decide⟩ (by rw [←e122] at h;exact h)
def s124_r0 (cf:CallF) (a0 a2 a3 a4 a5 a13 a25 a32:D) (S:Store) (Q:QT):Prop:=
 OX (slcD 2 a0 (some a3) none) fun x1=>OX (clrD 2 [.i .i64 0,.i .i64 0] S x1) fun S3=>OX (slcD 2 a0 none (some a3)) fun x4=>Q .ret (mkf 61 [(0,.top),(2,x4),(3,.top),(4,.top),(5,.top),(13,a13),(25,a25),(32,.top)]) S3
theorem e124_r0:wp cf c124_r0 (mkf 61 [(0,a0),(2,a2),(3,a3),(4,a4),(5,a5),(13,a13),(25,a25),(32,a32)]) S Q=s124_r0 cf a0 a2 a3 a4 a5 a13 a25 a32 S Q:=wpS_of (by kernel_rfl)
def s124_r1 (cf:CallF) (a0 a2 a3 a4 a5 a13 a25 a32:D) (S:Store) (Q:QT):Prop:=
 OX (binD .add .num a3 (.i .i64 1)) fun x5=>Q .normal (mkf 61 [(0,a0),(2,a2),(3,x5),(4,a4),(5,a5),(13,a13),(25,.top),(32,a32)]) S
def s124_0 (cf:CallF) (a0 a2 a3 a4 a5 a13 a25 a32:D) (S:Store) (Q:QT):Prop:=
 OX (lenD false a4) fun x6=>OX (binD .lss .num a5 x6) fun x7=>WB x7
 (OX (iaD 2 a4 a5) fun x8=>OX (ldD S 2 true x8) fun x9=>OX (binD .sub .num a5 (.i .i64 1)) fun x10=>OX (iaD 2 a4 x10) fun x11=>OX (ldD S 2 true x11) fun x12=>OX (binD .neq (.agg [.i,.i]) x9 x12) fun x13=>jn (fun (y15 y16 y17 y18 y19 y20 y21 y22:D) (S23:Store)=>OX (binD .add .num y19 (.i .i64 1)) fun x24=>Q .normal (mkf 61 [(0,y15),(2,y16),(3,y17),(4,y18),(5,x24),(13,y20),(25,y21),(32,.top)]) S23) fun k14=>WB x13
 (OX (iaD 2 a4 a5) fun x25=>OX (ldD S 2 true x25) fun x26=>OX (iaD 2 a0 a3) fun x27=>OX (stD S 2 true x27 x26) fun S29=>OX (binD .add .num a3 (.i .i64 1)) fun x30=>k14 a0 a2 x30 a4 a5 a13 a25 D.top S29)
 (k14 a0 a2 a3 a4 a5 a13 a25 x13 S))
 (Q (.exit 2) (mkf 61 [(0,a0),(2,a2),(3,a3),(4,a4),(5,a5),(13,a13),(25,a25),(32,x7)]) S)
theorem e124_0:wp cf c124_0 (fkill (mkf 61 [(0,a0),(2,a2),(3,a3),(4,a4),(5,a5),(13,a13),(25,a25),(32,a32)]) []) S Q=s124_0 cf a0 a2 a3 a4 a5 a13 a25 a32 S Q:=wpS_of (by kernel_rfl)
def s124_r2 (cf:CallF) (a0 a2 a3 a4 a5 a13 a25 a32:D) (S:Store) (Q:QT):Prop:=
 Q .ret (mkf 61 [(0,.top),(2,a0),(3,.top),(4,a4),(5,a5),(13,.top),(25,a25),(32,a32)]) S
theorem e124_r2:wp cf c124_r2 (mkf 61 [(0,a0),(2,a2),(3,a3),(4,a4),(5,a5),(13,a13),(25,a25),(32,a32)]) S Q=s124_r2 cf a0 a2 a3 a4 a5 a13 a25 a32 S Q:=wpS_of (by kernel_rfl)
def s124_1 (cf:CallF) (a0 a2 a3 a4 a5 a13 a25 a32:D) (S:Store) (Q:QT):Prop:=
 OX (lenD false a0) fun x31=>OX (binD .lss .num a3 x31) fun x32=>WB x32
 (OX (iaD 2 a0 a3) fun x33=>OX (ldD S 2 true x33) fun x34=>OX (binD .sub .num a3 (.i .i64 1)) fun x35=>OX (iaD 2 a0 x35) fun x36=>OX (ldD S 2 true x36) fun x37=>OX (binD .eql (.agg [.i,.i]) x34 x37) fun x38=>WB x38
 (OX (slcD 2 a0 (some a3) none) fun x39=>W cf (.loop [] c124_0) (mkf 61 [(0,a0),(2,a2),(3,a3),(4,x39),(5,(.i .i64 1)),(13,.top),(25,.top),(32,a32)]) S (Qblk 2 (QS cf c124_r0 (Qblk 1 (QS cf c124_r1 Q)))))
 (s124_r1 cf a0 a2 a3 a4 a5 D.top x38 a32 S Q))
 (Q (.exit 0) (mkf 61 [(0,a0),(2,a2),(3,a3),(4,a4),(5,a5),(13,x32),(25,a25),(32,a32)]) S)
theorem e124_1:wp cf c124_1 (fkill (mkf 61 [(0,a0),(2,a2),(3,a3),(4,a4),(5,a5),(13,a13),(25,a25),(32,a32)]) []) S Q=s124_1 cf a0 a2 a3 a4 a5 a13 a25 a32 S Q:=wpS_of (by kernel_rfl)
def s124 (cf:CallF) (a0:D) (S:Store) (Post:PT):Prop:=
 OX (lenD false a0) fun x40=>OX (binD .lss .num x40 (.i .i64 2)) fun x41=>WB x41
 (Post a0 S)
 (W cf (.loop [] c124_1) (mkf 61 [(0,a0),(2,.top),(3,(.i .i64 1)),(4,.top),(5,.top),(13,.top),(25,.top),(32,.top)]) S (Qblk 0 (QS cf c124_r2 (FinK [.t 2] Post))))
theorem e124:wp cf c124 (frame0 d124 [a0]) S (FinK d124.res Post)=s124 cf a0 S Post:=wpS_of (by kernel_rfl)
theorem f124 (a0:D) (S:Store) (Post:PT) (h:s124 (call dp) a0 S Post):∃ r S',call dp 124 [a0] S=some (r,S')∧Post r S':=call_s (f:=d124) rfl ⟨rfl,by decide⟩ (by rw [←e124] at h;exact h)
def s1049 (cf:CallF) (a0:D) (S:Store) (Post:PT):Prop:=
 OX (binD .eql .sl a0 (.sl 2 true [] .ro)) fun x1=>WB x1
 (Post (.sl 2 true [] .ro) S)
 (OX (cellsV 2 true []) fun x2=>OX (appD 2 true (bslO 2 x2 S).1 a0 (bslO 2 x2 S).2) fun p4=>Post p4.1 p4.2)
theorem e1049:wp cf c1049 (frame0 d1049 [a0]) S (FinK d1049.res Post)=s1049 cf a0 S Post:=wpS_of (by kernel_rfl)
theorem f1049 (a0:D) (S:Store) (Post:PT) (h:s1049 (call dp) a0 S Post):∃ r S',call dp 1049 [a0] S=some (r,S')∧Post r S':=call_s (f:=d1049) rfl ⟨rfl,by decide⟩ (by rw [←e1049] at h;exact h)
def s81 (cf:CallF) (a0:D) (S:Store) (Post:PT):Prop:=
 OX (cf 1049 [a0] S) fun p2=>OX (cf 122 [p2.1,(.fn 123 [])] p2.2) fun p4=>OX (cf 124 [p2.1] p4.2) fun p6=>OX (fzD p6.1 p6.2) fun p7=>Post p7.1 p7.2
theorem e81:wp cf c81 (frame0 d81 [a0]) S (FinK d81.res Post)=s81 cf a0 S Post:=wpS_of (by kernel_rfl)
theorem j81 (a0:D) (Post:D→Prop) (ha:noRefL (stripL [a0])=true) (hr:∀ r,Post r→noRef r=true) (h:s81 (call dp) (strip a0) [] fun d _=>Post (stripT d)):∃ r,isoCall (call dp) 81 [a0]=some r∧Post r:=iso_x (f:=d81) rfl ⟨rfl,by decide⟩ ha hr (by rw [←e81] at h;exact h)
end Go.Proofs.YtjlmeikcfdanmaaGreatDoor.DE

namespace Go.Proofs.YtjlmeikcfdanmaaGreatDoor.DE.V
open Go
def flatL (l:List Row):List D:=(l.map eRow).flatten
def flat (d:Array Row):List D:=flatL d.toList
def put (S:Store) (id:Nat) (d:Array Row):Store:=sset S id (.box (flat d))
def iN (k:Nat):D:=.i .i64 (k:Int)
def arN (id n:Nat):D:=.ar 2 id 0 n
def cmpF:D:=.fn 123 []
theorem flatL_cons (x:Row) (l:List Row):flatL (x::l) = .i .i64 x.1 :: .i .i64 x.2::flatL l:=rfl
theorem flatL_len:∀ l:List Row,(flatL l).length=2 * l.length
 | []=>rfl
 | x::l=>by rw [flatL_cons];simp [flatL_len l];omega
theorem flatL_rd:∀ {l:List Row} {k:Nat} {r:Row},l[k]? = some r→rdK (flatL l) (k * 2) 2 true=some (.agg (eRow r))
 | [],_,_,h=>by simp at h
 | x::l,0,r,h=>by
  simp at h;subst h
  simp [flatL_cons,rdK,eRow]
 | x::l,k+1,r,h=>by
  have ih:=flatL_rd (l:=l) (k:=k) (by simpa using h)
  have e:(k+1) * 2=k * 2+1+1:=by omega
  simp only [rdK,if_true,flatL_len] at ih ⊢
  rw [flatL_cons,e]
  simp only [List.drop_succ_cons,List.length_cons,flatL_len]
  split at ih
  ·rw [if_pos (by omega)];exact ih
  ·cases ih
theorem flatL_st:∀ {l:List Row} {k:Nat} (r:Row),k<l.length→splice (flatL l) (k * 2) (eRow r)=flatL (l.set k r)
 | [],_,_,h=>by simp at h
 | x::l,0,r,_=>rfl
 | x::l,k+1,r,h=>by
  have ih:=flatL_st (l:=l) (k:=k) r (by simpa using h)
  have e:(k+1) * 2=k * 2+1+1:=by omega
  rw [flatL_cons,e,List.set_cons_succ,flatL_cons,←ih]
  rfl
theorem sset_sset {α:Type} (x y:α):∀ (S:List α) (id:Nat),sset (sset S id x) id y=sset S id y
 | [],_=>rfl
 | e::S,id=>by
  simp only [sset]
  split
  ·rename_i q;simp [sset,q]
  ·rename_i q
   simp only [sset,sset_len,if_neg q,sset_sset x y S id]
theorem put_len (S:Store) (id:Nat) (d:Array Row):(put S id d).length=S.length:=sset_len _ _ _
theorem sget_put {S:Store} {id:Nat} (d:Array Row) (h:id<S.length):sget (put S id d) id=some (.box (flat d)):=sget_sset _ h
theorem sget_put_ne {S:Store} {id j:Nat} (d:Array Row) (h:j≠id):sget (put S id d) j=sget S j:=sget_sset_ne _ h
theorem put_push {S:Store} {id:Nat} (d:Array Row) (e:Ent) (h:id<S.length):put (e::S) id d=e::put S id d:=by
 simp only [put,sset]
 rw [if_neg (by omega)]
theorem getE {d:Array Row} {k:Nat} (h:k<d.size):d.toList[k]? = some d[k]!:=by
 rw [Array.getElem?_toList,Array.getElem?_eq_getElem h,getElem!_pos d k h]
theorem ia_N {id n k:Nat} (h:k<n):iaD 2 (arN id n) (iN k)=some (.bx id (k * 2)):=by
 simp only [arN,iN,iaD]
 rw [if_pos ⟨by omega,by omega,trivial⟩]
 simp
theorem ld_N {S:Store} {id k:Nat} {d:Array Row} (hi:id<S.length) (h:k<d.size):ldD (put S id d) 2 true (.bx id (k * 2))=some (.agg (eRow d[k]!)):=by
 simp only [ldD,sget_put d hi]
 exact flatL_rd (getE h)
theorem st_N {S:Store} {id k:Nat} {d:Array Row} (r:Row) (hi:id<S.length) (h:k<d.size):stD (put S id d) 2 true (.bx id (k * 2)) (.agg (eRow r))=some (put S id (d.setIfInBounds k r)):=by
 have hl:(flat d).length=2 * d.size:=by rw [flat,flatL_len];simp
 simp only [stD,sget_put d hi,cellsK_row]
 rw [if_pos (by omega),flat,flatL_st r (by simpa using h),put,sset_sset,put,flat,Array.toList_setIfInBounds]
theorem add_N {a b:Nat} (h:a+b<4000000000):binD .add .num (iN a) (iN b)=some (iN (a+b)):=by
 simp only [iN,bin_add];rw [wrap64 ⟨by omega,by omega⟩];rfl
theorem sub_N {a b:Nat} (h:b≤a) (h':a<4000000000):binD .sub .num (iN a) (iN b)=some (iN (a-b)):=by
 simp only [iN,bin_sub];rw [wrap64 ⟨by omega,by omega⟩]
 congr 2;omega
theorem mul_N {a b:Nat} (h:a * b<4000000000):binD .mul .num (iN a) (iN b)=some (iN (a * b)):=by
 have e:(a:Int) * b=((a * b:Nat):Int):=by simp
 simp only [iN,binD,intOp,if_true,e];generalize a * b=m at *;rw [wrap64 ⟨by omega,by omega⟩]
theorem quo_N {a b:Nat} (h:0<b) (ha:a<4000000000):binD .quo .num (iN a) (iN b)=some (iN (a / b)):=by
 have:a / b≤a:=Nat.div_le_self _ _
 simp only [iN,binD,intOp,if_true]
 have e:(a:Int).tdiv b=((a / b:Nat):Int):=(Int.ofNat_tdiv a b).symm
 rw [if_neg (by omega),e]
 generalize a / b=c at *
 rw [wrap64 ⟨by omega,by omega⟩]
theorem lss_N (a b:Nat):binD .lss .num (iN a) (iN b)=some (.b (decide (a<b))):=by
 simp only [iN,bin_lss];congr 3;simp
theorem gtr_N (a b:Nat):binD .gtr .num (iN a) (iN b)=some (.b (decide (b<a))):=by
 simp only [iN,bin_gtr];congr 3;simp
theorem leq_N (a b:Nat):binD .leq .num (iN a) (iN b)=some (.b (decide (a≤b))):=by
 simp only [iN,bin_leq];congr 3;simp
theorem geq_N (a b:Nat):binD .geq .num (iN a) (iN b)=some (.b (decide (b≤a))):=by
 simp only [iN,bin_geq];congr 3;simp
theorem eql_N (a b:Nat):binD .eql .num (iN a) (iN b)=some (.b (decide (a=b))):=by
 simp only [iN,bin_eql];congr 2;rw [decide_eq_decide];omega
theorem l0:D.i .i64 0=iN 0:=rfl
theorem l1:D.i .i64 1=iN 1:=rfl
theorem l2:D.i .i64 2=iN 2:=rfl
theorem l3:D.i .i64 3=iN 3:=rfl
theorem l4:D.i .i64 4=iN 4:=rfl
theorem l8:D.i .i64 8=iN 8:=rfl
theorem l12:D.i .i64 12=iN 12:=rfl
theorem l50:D.i .i64 50=iN 50:=rfl
def cmpI (a b:Int):Int:=if a<b then -1 else if b<a then 1 else 0
def cmpZ (r s:Row):Int:=if cmpI r.1 s.1=0 then cmpI r.2 s.2 else cmpI r.1 s.1
def cD (r s:Row):D:=.i .i64 (cmpZ r s)
def ltR (r s:Row):Bool:=decide (cmpZ r s<0)
theorem cmpI_cases (a b:Int):(a<b∧cmpI a b = -1)∨(a=b∧cmpI a b=0)∨(b<a∧cmpI a b=1):=by
 unfold cmpI
 split
 ·exact .inl ⟨by assumption,rfl⟩
 ·split
  ·exact .inr (.inr ⟨by assumption,rfl⟩)
  ·exact .inr (.inl ⟨by omega,rfl⟩)
theorem ltR_iff (r s:Row):ltR r s=true↔r.1<s.1∨(r.1=s.1∧r.2<s.2):=by
 rw [ltR,decide_eq_true_iff,cmpZ]
 rcases cmpI_cases r.1 s.1 with ⟨h,e⟩ | ⟨h,e⟩ | ⟨h,e⟩
 ·rw [e,if_neg (by omega)];omega
 ·rw [e,if_pos rfl]
  rcases cmpI_cases r.2 s.2 with ⟨k,e⟩ | ⟨k,e⟩ | ⟨k,e⟩ <;> rw [e] <;> omega
 ·rw [e,if_neg (by omega)];omega
theorem ltR_false (r s:Row):ltR r s=false↔¬(r.1<s.1∨(r.1=s.1∧r.2<s.2)):=by
 rw [←ltR_iff];simp
theorem swo:Go.Sort.SWO ltR where
 irrefl x:=by rw [ltR_false];omega
 trans x y z:=by rw [ltR_iff,ltR_iff,ltR_iff];omega
 ntrans x y z:=by rw [ltR_false,ltR_false,ltR_false];omega
theorem lss_c (r s:Row):binD .lss .num (cD r s) (iN 0)=some (.b (ltR r s)):=by
 simp only [cD,iN,bin_lss];rfl
end Go.Proofs.YtjlmeikcfdanmaaGreatDoor.DE.V

namespace Go.Proofs.YtjlmeikcfdanmaaGreatDoor.DE.V
open Go
theorem v187 (a:Int):isoCall (call dp) 187 [.i .i64 a]=some (.b false):=by
 apply i187 _ _ rfl rfl
 simp [s187]
theorem v144 (a b:Int):isoCall (call dp) 144 [.i .i64 a,.i .i64 b]=some (.i .i64 (cmpI a b)):=by
 apply i144 _ _ _ rfl rfl
 simp [s144,v187]
 rcases cmpI_cases a b with ⟨h,e⟩ | ⟨h,e⟩ | ⟨h,e⟩ <;> rw [e]
 ·simp [h]
 ·simp [h]
 ·have:¬a<b:=by omega
  simp [h,this]
theorem W_step {cf:CallF} {kl:List Nat} {c:C} {fr:List D} {S:Store} {Q:Ex→List D→Store→Prop} (h:W cf c (fkill fr kl) S (Qseq (fun fr' S'=>W cf (.loop kl c) fr' S' Q) Q)):W cf (.loop kl c) fr S Q:=by
 obtain ⟨ex,f1,S1,he,hq⟩:=W_ex.1 h
 have mono:∀ n m,n≤m→LeO (iter (fun fr S=>execL cf c (fkill fr kl) S) n fr S) (iter (fun fr S=>execL cf c (fkill fr kl) S) m fr S):=fun n m hm=>iter_mono (fun _ _=>LeO.refl _) n m hm fr S
 cases ex with
 | normal=>
  obtain ⟨ex',f2,S2,he2,hq2⟩:=W_ex.1 hq
  simp only [execL] at he2
  obtain ⟨n,hn⟩:=(lim_iff (fun n m hm=>iter_mono (fun _ _=>LeO.refl _) n m hm f1 S1) _).1 he2
  refine W_ex.2 ⟨ex',f2,S2,?_,hq2⟩
  simp only [execL]
  refine (lim_iff mono _).2 ⟨n+1,?_⟩
  simp only [iter,he]
  exact hn
 | exit id=>
  refine W_ex.2 ⟨.exit id,f1,S1,?_,hq⟩
  simp only [execL]
  exact (lim_iff mono _).2 ⟨1,by simp only [iter,he]⟩
 | ret=>
  refine W_ex.2 ⟨.ret,f1,S1,?_,hq⟩
  simp only [execL]
  exact (lim_iff mono _).2 ⟨1,by simp only [iter,he]⟩
theorem v143 (a b:Int):isoCall (call dp) 143 [.sl 1 false [[.i .i64 a],[.i .i64 b]] .ro]=some (.i .i64 (if a=0 then b else a)):=by
 apply i143 _ _ rfl rfl
 have w1:IntKind.i64.wrap 1=1:=wrap64 ⟨by omega,by omega⟩
 have w2:IntKind.i64.wrap 2=2:=wrap64 ⟨by omega,by omega⟩
 have hs:strip (.sl 1 false [[.i .i64 a],[.i .i64 b]] .ro) = .sl 1 false [[.i .i64 a],[.i .i64 b]] .ro:=rfl
 rw [hs]
 simp [s143]
 apply W_step
 rw [←wp_W,e143_0]
 by_cases ha:a=0
 ·simp [s143_0,iaD,ha,w1]
  apply W_step
  rw [←wp_W,e143_0]
  by_cases hb:b=0
  ·simp [s143_0,iaD,hb,w2]
   apply W_step
   rw [←wp_W,e143_0]
   simp [s143_0,e143_r0,s143_r0]
  ·simp [s143_0,iaD,hb]
 ·simp [s143_0,iaD,ha]
theorem v123 (r s:Row):isoCall (call dp) 123 [.agg (eRow r),.agg (eRow s)]=some (cD r s):=by
 apply i123 _ _ _ rfl rfl
 have e1:=v144 r.1 s.1
 have e2:=v144 r.2 s.2
 have e3:=v143 (cmpI r.1 s.1) (cmpI r.2 s.2)
 have hc:cellsV 1 false [.i .i64 (cmpI r.1 s.1),.i .i64 (cmpI r.2 s.2)]=some [[.i .i64 (cmpI r.1 s.1)],[.i .i64 (cmpI r.2 s.2)]]:=rfl
 simp [s123,e1,e2,hc,e3]
 rfl
theorem FinK_nil (Post:D→Store→Prop) (fr:List D) (S:Store):FinK [] Post .ret fr S=Post (.tup []) S:=rfl
theorem swp_size (d:Array Row) (i j:Nat):(Go.Sort.swp d i j).size=d.size:=by simp [Go.Sort.swp]
theorem v198 {S:Store} {id n:Nat} {d:Array Row} (a b:Nat) (hi:id<S.length) (hn:d.size=n) (hab:a≤b) (hb:b≤n) (h9:n≤1000000) :
  call dp 198 [arN id n,iN a,iN b,cmpF] (put S id d)=some (.tup [],put S id (Go.Sort.insertionSort ltR d a b)):=by
 obtain ⟨r,S',e,rfl,rfl⟩:=f198 (arN id n) (iN a) (iN b) cmpF (put S id d) (fun r S'=>r = .tup []∧S'=put S id (Go.Sort.insertionSort ltR d a b)) (by
  simp (disch:=omega) [s198,l1,add_N]
  let J:Nat→List D→Store→Prop:=fun q fr S'=>∃ i d' x9 x14 x34,q=b-i∧a<i∧d'.size=n∧Go.Sort.insOuter ltR a b i d'=Go.Sort.insertionSort ltR d a b∧S'=put S id d' ∧
   fr=mkf 53 [(0,arN id n),(1,iN a),(2,iN b),(3,cmpF),(8,iN i),(9,x9),(14,x14),(34,x34)]
  refine W_loop J ?_ (b-(a+1)) _ _ ⟨a+1,d,_,_,_,rfl,by omega,hn,rfl,rfl,rfl⟩
  rintro q fr S' ⟨i,d',x9,x14,x34,rfl,hai,hn',hio,rfl,rfl⟩
  rw [←wp_W,e198_1]
  rw [Go.Sort.insOuter] at hio
  by_cases hlt:i<b
  ·rw [if_pos hlt] at hio
   simp (disch:=omega) [s198_1,lss_N,hlt]
   let J2:Nat→List D→Store→Prop:=fun q fr S'=>∃ d'' x14 x34,a≤q∧q≤i∧d''.size=n∧Go.Sort.insInner ltR a q d''=Go.Sort.insInner ltR a i d'∧S'=put S id d'' ∧
    fr=mkf 53 [(0,arN id n),(1,iN a),(2,iN b),(3,cmpF),(8,iN i),(9,iN q),(14,x14),(34,x34)]
   refine W_loop J2 ?_ i _ _ ⟨d',_,_,by omega,by omega,hn',rfl,rfl,rfl⟩
   rintro q fr S' ⟨d'',x14,x34,haq,hqi,hn'',hii,rfl,rfl⟩
   rw [←wp_W,e198_0]
   have out:∀ x34,Go.Sort.insInner ltR a q d''=d''→Qseq (fun fr' S'=>∃ m',m'<q∧J2 m' fr' S') (Qblk 2 (Qblk 1 (QS (call dp) c198_r0 (Qseq (fun fr' S'=>∃ m',m'<b-i∧J m' fr' S') (Qblk 0 (FinK [] fun r S'=>r=D.tup []∧S'=put S id (Go.Sort.insertionSort ltR d a b))))))) (.exit 2)
     (mkf 53 [(0,arN id n),(1,iN a),(2,iN b),(3,cmpF),(8,iN i),(9,iN q),(14,x14),(34,x34)]) (put S id d''):=by
    intro x34 hq
    simp (disch:=omega) [e198_r0,s198_r0,l1,add_N]
    exact ⟨b-(i+1),by omega,i+1,d'',_,_,_,rfl,by omega,hn'',by rw [←hio,←hii,hq],rfl,rfl⟩
   cases q with
   | zero=>
    have hq:¬a<0:=by omega
    simp (disch:=omega) only [s198_0,gtr_N,hq,decide_false,OX_some,gsel_ft,gsel_skip,pick_f,WB_b,Bool.false_eq_true,if_false]
    exact out _ rfl
   | succ j=>
    rw [Go.Sort.insInner] at hii
    by_cases hq:a<j+1
    ·have lj:j<d''.size:=by omega
     have lj1:j+1<d''.size:=by omega
     have i1:=ia_N (id:=id) (n:=n) (k:=j) (by omega)
     have i2:=ia_N (id:=id) (n:=n) (k:=j+1) (by omega)
     have d1:=ld_N hi lj
     have d2:=ld_N hi lj1
     have c1:=v123 d''[j+1]! d''[j]!
     have s1:=st_N d''[j]! hi lj1
     have s2:=st_N (d:=d''.setIfInBounds (j+1) d''[j]!) (k:=j) d''[j+1]! hi (by simpa using lj)
     have m1:binD .sub .num (iN (j+1)) (iN 1)=some (iN j):=sub_N (by omega) (by omega)
     by_cases hc:ltR d''[j+1]! d''[j]! = true
     ·simp only [s198_0,l1,l0,gtr_N,hq,decide_true,OX_some,gsel_tt,i1,i2,d1,d2,cmpF,fnD_fn,List.append_nil,c1,m1,lss_c,hc,pick_t,WB_b,if_true,s1,s2,Qseq_normal]
      refine ⟨j,by omega,_,_,_,by omega,by omega,?_,?_,rfl,rfl⟩
      ·simp [hn'']
      ·rw [←hii];simp [hq,hc,Go.Sort.swp]
     ·simp only [s198_0,l1,l0,gtr_N,hq,decide_true,OX_some,gsel_tt,i1,i2,d1,d2,cmpF,fnD_fn,List.append_nil,c1,m1,lss_c,hc,pick_t,WB_b,if_false,Bool.not_eq_true]
      refine out _ ?_
      rw [Go.Sort.insInner];simp [hc]
    ·simp (disch:=omega) only [s198_0,gtr_N,hq,decide_false,OX_some,gsel_ft,gsel_skip,pick_f,WB_b,Bool.false_eq_true,if_false]
     refine out _ ?_
     rw [Go.Sort.insInner];simp [hq]
  ·rw [if_neg hlt] at hio
   simp (disch:=omega) [s198_1,lss_N,hlt,hio,FinK_nil])
 exact e
end Go.Proofs.YtjlmeikcfdanmaaGreatDoor.DE.V

namespace Go.Proofs.YtjlmeikcfdanmaaGreatDoor.DE
open Go
variable (cf:CallF) (a0 a1 a2 a3 a4 a5 a7 a8 a9 a10 a11 a12 a13 a14 a19 a32:D) (S:Store) (Q:QT) (Post:PT)
def s92 (cf:CallF) (a0:D) (S:Store) (Post:PT):Prop:=
 bxx 2 true a0 S fun x1 S2=>OX (faD 0 x1) fun x3=>OX (ldD S2 1 false x3) fun x4=>OX (binD .geq .num x4 (.i .i64 1)) fun x5=>OX (gsel x5 true (faD 1 x1)) fun x6=>OX (gsel x5 true (ldD S2 1 false x6)) fun x7=>OX (gsel x5 true (binD .geq .num x7 (.i .i64 1))) fun x8=>OX (pickD x5 x8 (.b false)) fun x9=>Post x9 S2
theorem e92:wp cf c92 (frame0 d92 [a0]) S (FinK d92.res Post)=s92 cf a0 S Post:=wpS_of (by kernel_rfl)
theorem i92 (a0:D) (r:D) (ha:noRefL (stripL [a0])=true) (hr:noRef r=true) (h:s92 (call dp) (strip a0) [] fun d _=>stripT d=r):isoCall (call dp) 92 [a0]=some r:=iso_s (f:=d92) rfl ⟨rfl,by decide⟩ ha hr (by rw [←e92] at h;exact h)
def s51 (cf:CallF) (a0:D) (S:Store) (Post:PT):Prop:=
 bxx 2 true a0 S fun x1 S2=>OX (faD 0 x1) fun x3=>OX (ldD S2 1 false x3) fun x4=>OX (binD .geq .num x4 (.i .i64 1)) fun x5=>OX (gsel x5 true (faD 1 x1)) fun x6=>OX (gsel x5 true (ldD S2 1 false x6)) fun x7=>OX (gsel x5 true (binD .geq .num x7 (.i .i64 1))) fun x8=>OX (pickD x5 x8 (.b false)) fun x9=>Post x9 S2
theorem e51:wp cf c51 (frame0 d51 [a0]) S (FinK d51.res Post)=s51 cf a0 S Post:=wpS_of (by kernel_rfl)
theorem i51 (a0:D) (r:D) (ha:noRefL (stripL [a0])=true) (hr:noRef r=true) (h:s51 (call dp) (strip a0) [] fun d _=>stripT d=r):isoCall (call dp) 51 [a0]=some r:=iso_s (f:=d51) rfl ⟨rfl,by decide⟩ ha hr (by rw [←e51] at h;exact h)
def s48_r0 (cf:CallF) (a0 a2 a3 a7 a8 a9 a10:D) (S:Store) (Q:QT):Prop:=
 OX (lenD false a0) fun x1=>OX (binD .leq .num x1 (.i .i64 4096)) fun x2=>Q .ret (mkf 27 [(0,.top),(2,x2),(3,.top),(7,.top),(8,.top),(9,.top),(10,.top)]) S
theorem e48_r0:wp cf c48_r0 (mkf 27 [(0,a0),(2,a2),(3,a3),(7,a7),(8,a8),(9,a9),(10,a10)]) S Q=s48_r0 cf a0 a2 a3 a7 a8 a9 a10 S Q:=wpS_of (by kernel_rfl)
def s48_0 (cf:CallF) (a0 a2 a3 a7 a8 a9 a10:D) (S:Store) (Q:QT):Prop:=
 OX (binD .lss .num a9 a8) fun x3=>WB x3
 (OX (iaD 2 a7 a9) fun x4=>OX (ldD S 2 true x4) fun x5=>al [.i .i64 0,.i .i64 0] S fun x6 S7=>OX (stD S7 2 true x6 x5) fun S9=>OX (ldD S9 2 true x6) fun x10=>OX (isoCall cf 92 [x10]) fun x11=>OX (unD .not x11) fun x12=>OX (gsel x12 false (some a3)) fun x13=>OX (gsel x12 false (ldD S9 2 true x6)) fun x14=>OX (gsel x12 false (lkD' (.agg [.i,.i]) false (.b false) S9 x13 x14)) fun x15=>OX (pickD x12 (.b true) x15) fun x16=>WB x16
 (Q .ret (mkf 27 [(0,.top),(2,(.b false)),(3,.top),(7,.top),(8,.top),(9,.top),(10,.top)]) S9)
 (OX (ldD S9 2 true x6) fun x17=>OX (muD' (.agg [.i,.i]) S9 a3 x17 (.b true)) fun S19=>OX (binD .add .num a9 (.i .i64 1)) fun x20=>Q .normal (mkf 27 [(0,a0),(2,a2),(3,a3),(7,a7),(8,a8),(9,x20),(10,.top)]) S19))
 (Q (.exit 0) (mkf 27 [(0,a0),(2,a2),(3,a3),(7,a7),(8,a8),(9,a9),(10,x3)]) S)
theorem e48_0:wp cf c48_0 (fkill (mkf 27 [(0,a0),(2,a2),(3,a3),(7,a7),(8,a8),(9,a9),(10,a10)]) []) S Q=s48_0 cf a0 a2 a3 a7 a8 a9 a10 S Q:=wpS_of (by kernel_rfl)
def s48 (cf:CallF) (a0:D) (S:Store) (Post:PT):Prop:=
 mm S fun x21 S22=>OX (lenD false a0) fun x23=>W cf (.loop [] c48_0) (mkf 27 [(0,a0),(2,.top),(3,x21),(7,a0),(8,x23),(9,(.i .i64 0)),(10,.top)]) S22 (Qblk 0 (QS cf c48_r0 (FinK [.t 2] Post)))
theorem e48:wp cf c48 (frame0 d48 [a0]) S (FinK d48.res Post)=s48 cf a0 S Post:=wpS_of (by kernel_rfl)
theorem i48 (a0:D) (r:D) (ha:noRefL (stripL [a0])=true) (hr:noRef r=true) (h:s48 (call dp) (strip a0) [] fun d _=>stripT d=r):isoCall (call dp) 48 [a0]=some r:=iso_s (f:=d48) rfl ⟨rfl,by decide⟩ ha hr (by rw [←e48] at h;exact h)
def s71_r0 (cf:CallF) (a1 a2 a3 a9 a10 a11 a12:D) (S:Store) (Q:QT):Prop:=
 OX (faD 2 a1) fun x1=>OX (ldD S 1 false x1) fun x2=>OX (binD .geq .num x2 (.i .i64 0)) fun x3=>OX (gsel x3 true (faD 2 a1)) fun x4=>OX (gsel x3 true (ldD S 1 false x4)) fun x5=>OX (gsel x3 true (faD 1 a1)) fun x6=>OX (gsel x3 true (ldD S 1 false x6)) fun x7=>OX (gsel x3 true (lenD false x7)) fun x8=>OX (gsel x3 true (binD .add .num x8 (.i .i64 2))) fun x9=>OX (gsel x3 true (binD .lss .num x5 x9)) fun x10=>OX (pickD x3 x10 (.b false)) fun x11=>Q .ret (mkf 98 [(1,.top),(2,x11),(3,.top),(9,.top),(10,.top),(11,.top),(12,.top)]) S
theorem e71_r0:wp cf c71_r0 (mkf 98 [(1,a1),(2,a2),(3,a3),(9,a9),(10,a10),(11,a11),(12,a12)]) S Q=s71_r0 cf a1 a2 a3 a9 a10 a11 a12 S Q:=wpS_of (by kernel_rfl)
def s71_0 (cf:CallF) (a1 a2 a3 a9 a10 a11 a12:D) (S:Store) (Q:QT):Prop:=
 OX (binD .lss .num a11 a10) fun x12=>WB x12
 (OX (iaD 3 a9 a11) fun x13=>OX (ldD S 3 true x13) fun x14=>al [.i .i64 0,.i .i64 0,.i .i64 0] S fun x15 S16=>OX (stD S16 3 true x15 x14) fun S18=>OX (faD 1 x15) fun x19=>OX (ldD S18 1 false x19) fun x20=>OX (binD .geq .num x20 (.i .i64 0)) fun x21=>OX (gsel x21 true (faD 2 x15)) fun x22=>OX (gsel x21 true (ldD S18 1 false x22)) fun x23=>OX (gsel x21 true (binD .geq .num x23 (.i .i64 0))) fun x24=>OX (pickD x21 x24 (.b false)) fun x25=>OX (gsel x25 true (faD 1 x15)) fun x26=>OX (gsel x25 true (ldD S18 1 false x26)) fun x27=>OX (gsel x25 true (some a11)) fun x28=>OX (gsel x25 true (binD .add .num x28 (.i .i64 2))) fun x29=>OX (gsel x25 true (binD .lss .num x27 x29)) fun x30=>OX (pickD x25 x30 (.b false)) fun x31=>OX (gsel x31 true (faD 2 x15)) fun x32=>OX (gsel x31 true (ldD S18 1 false x32)) fun x33=>OX (gsel x31 true (some a11)) fun x34=>OX (gsel x31 true (binD .add .num x34 (.i .i64 2))) fun x35=>OX (gsel x31 true (binD .lss .num x33 x35)) fun x36=>OX (pickD x31 x36 (.b false)) fun x37=>OX (faD 0 x15) fun x38=>OX (ldD S18 1 false x38) fun x39=>OX (binD .lss .num x39 (.i .i64 0)) fun x40=>OX (gsel x40 false (faD 0 x15)) fun x41=>OX (gsel x40 false (ldD S18 1 false x41)) fun x42=>OX (gsel x40 false (faD 0 a1)) fun x43=>OX (gsel x40 false (ldD S18 1 false x43)) fun x44=>OX (gsel x40 false (lenD false x44)) fun x45=>OX (gsel x40 false (binD .geq .num x42 x45)) fun x46=>OX (pickD x40 (.b true) x46) fun x47=>OX (gsel x47 false (some x37)) fun x48=>OX (gsel x47 false (unD .not x48)) fun x49=>OX (pickD x47 (.b true) x49) fun x50=>OX (gsel x50 false (faD 1 x15)) fun x51=>OX (gsel x50 false (ldD S18 1 false x51)) fun x52=>OX (gsel x50 false (faD 2 x15)) fun x53=>OX (gsel x50 false (ldD S18 1 false x53)) fun x54=>OX (gsel x50 false (binD .eql .num x52 x54)) fun x55=>OX (pickD x50 (.b true) x55) fun x56=>OX (gsel x56 false (some a3)) fun x57=>OX (gsel x56 false (ldD S18 3 true x15)) fun x58=>OX (gsel x56 false (lkD' (.agg [.i,.i,.i]) false (.b false) S18 x57 x58)) fun x59=>OX (pickD x56 (.b true) x59) fun x60=>OX (gsel x60 false (ldD S18 3 true a1)) fun x61=>OX (gsel x60 false (faD 1 x15)) fun x62=>OX (gsel x60 false (ldD S18 1 false x62)) fun x63=>OX (gsel x60 false (isoCall cf 77 [x61,x63])) fun x64=>OX (gsel x60 false (faD 0 x15)) fun x65=>OX (gsel x60 false (ldD S18 1 false x65)) fun x66=>OX (gsel x60 false (binD .leq .num x64 x66)) fun x67=>OX (pickD x60 (.b true) x67) fun x68=>OX (gsel x68 false (ldD S18 3 true a1)) fun x69=>OX (gsel x68 false (faD 2 x15)) fun x70=>OX (gsel x68 false (ldD S18 1 false x70)) fun x71=>OX (gsel x68 false (isoCall cf 77 [x69,x71])) fun x72=>OX (gsel x68 false (faD 0 x15)) fun x73=>OX (gsel x68 false (ldD S18 1 false x73)) fun x74=>OX (gsel x68 false (binD .leq .num x72 x74)) fun x75=>OX (pickD x68 (.b true) x75) fun x76=>WB x76
 (Q .ret (mkf 98 [(1,.top),(2,(.b false)),(3,.top),(9,.top),(10,.top),(11,.top),(12,.top)]) S18)
 (OX (ldD S18 3 true x15) fun x77=>OX (muD' (.agg [.i,.i,.i]) S18 a3 x77 (.b true)) fun S79=>OX (binD .add .num a11 (.i .i64 1)) fun x80=>Q .normal (mkf 98 [(1,a1),(2,a2),(3,a3),(9,a9),(10,a10),(11,x80),(12,.top)]) S79))
 (Q (.exit 0) (mkf 98 [(1,a1),(2,a2),(3,a3),(9,a9),(10,a10),(11,a11),(12,x12)]) S)
theorem e71_0:wp cf c71_0 (fkill (mkf 98 [(1,a1),(2,a2),(3,a3),(9,a9),(10,a10),(11,a11),(12,a12)]) []) S Q=s71_0 cf a1 a2 a3 a9 a10 a11 a12 S Q:=wpS_of (by kernel_rfl)
def s71 (cf:CallF) (a0:D) (S:Store) (Post:PT):Prop:=
 bxx 3 true a0 S fun x81 S82=>mm S82 fun x83 S84=>OX (faD 1 x81) fun x85=>OX (ldD S84 1 false x85) fun x86=>OX (lenD false x86) fun x87=>W cf (.loop [] c71_0) (mkf 98 [(1,x81),(2,.top),(3,x83),(9,x86),(10,x87),(11,(.i .i64 0)),(12,.top)]) S84 (Qblk 0 (QS cf c71_r0 (FinK [.t 2] Post)))
theorem e71:wp cf c71 (frame0 d71 [a0]) S (FinK d71.res Post)=s71 cf a0 S Post:=wpS_of (by kernel_rfl)
theorem i71 (a0:D) (r:D) (ha:noRefL (stripL [a0])=true) (hr:noRef r=true) (h:s71 (call dp) (strip a0) [] fun d _=>stripT d=r):isoCall (call dp) 71 [a0]=some r:=iso_s (f:=d71) rfl ⟨rfl,by decide⟩ ha hr (by rw [←e71] at h;exact h)
def s77 (cf:CallF) (a0 a1:D) (S:Store) (Post:PT):Prop:=
 bxx 3 true a0 S fun x1 S2=>OX (binD .lss .num a1 (.i .i64 2)) fun x3=>WB x3
 (OX (faD 0 x1) fun x4=>OX (ldD S2 1 false x4) fun x5=>OX (lenD false x5) fun x6=>Post x6 S2)
 (OX (faD 1 x1) fun x7=>OX (ldD S2 1 false x7) fun x8=>OX (binD .sub .num a1 (.i .i64 2)) fun x9=>OX (iaD 3 x8 x9) fun x10=>OX (faD 0 x10) fun x11=>OX (ldD S2 1 false x11) fun x12=>Post x12 S2)
theorem e77:wp cf c77 (frame0 d77 [a0,a1]) S (FinK d77.res Post)=s77 cf a0 a1 S Post:=wpS_of (by kernel_rfl)
theorem i77 (a0 a1:D) (r:D) (ha:noRefL (stripL [a0,a1])=true) (hr:noRef r=true) (h:s77 (call dp) (strip a0) (strip a1) [] fun d _=>stripT d=r):isoCall (call dp) 77 [a0,a1]=some r:=iso_s (f:=d77) rfl ⟨rfl,by decide⟩ ha hr (by rw [←e77] at h;exact h)
def s72 (cf:CallF) (a0 a1 a2:D) (S:Store) (Post:PT):Prop:=
 bxx 1 false a1 S fun x1 S2=>al [.sl 2 true [] .ro,.sl 3 true [] .ro,.i .i64 0] S2 fun x3 S4=>OX (isoCall cf 49 [a0]) fun x5=>OX (bldV [.sl 2 true [] .ro,.sl 3 true [] .ro,.i .i64 0] [(0,1,false,x5)]) fun x6=>al [.sl 2 true [] .ro,.sl 3 true [] .ro,.i .i64 0] S4 fun x7 S8=>OX (stD S8 3 true x7 (.agg x6)) fun S10=>mm S10 fun x11 S12=>OX (muD' (.one .i) S12 x11 (.i .i64 0) (.i .i64 0)) fun S14=>OX (muD' (.one .i) S14 x11 (.i .i64 1) (.i .i64 1)) fun S16=>al [.nilm] S16 fun x17 S18=>OX (stD S18 1 false x17 x11) fun S20=>al [.top] S20 fun x21 S22=>OX (stD S22 1 false x21 (.fn 115 [x17,x1,x21,x7])) fun S24=>OX (ldD S24 1 false x21) fun x25=>OX (fnD x25) fun q27=>OX (cf q27.1 ([a2]++q27.2) S24) fun p28=>OX (faD 2 x7) fun x29=>OX (stD p28.2 1 false x29 p28.1) fun S31=>OX (ldD S31 3 true x7) fun x32=>OX (stD S31 3 true x3 x32) fun S34=>OX (ldc S34 3 true x3) fun x35=>Post x35 S34
theorem e72:wp cf c72 (frame0 d72 [a0,a1,a2]) S (FinK d72.res Post)=s72 cf a0 a1 a2 S Post:=wpS_of (by kernel_rfl)
theorem i72 (a0 a1 a2:D) (r:D) (ha:noRefL (stripL [a0,a1,a2])=true) (hr:noRef r=true) (h:s72 (call dp) (strip a0) (strip a1) (strip a2) [] fun d _=>stripT d=r):isoCall (call dp) 72 [a0,a1,a2]=some r:=iso_s (f:=d72) rfl ⟨rfl,by decide⟩ ha hr (by rw [←e72] at h;exact h)
def s115 (cf:CallF) (a0 a1 a2 a3 a4:D) (S:Store) (Post:PT):Prop:=
 OX (ldD S 1 false a1) fun x1=>OX (lkD' (.one .i) true (.i .i64 0) S x1 a0) fun x2=>OX (extD x2 0) fun x3=>OX (extD x2 1) fun x4=>WB x4
 (Post x3 S)
 (OX (ldD S 1 false a2) fun x5=>OX (binD .sub .num a0 (.i .i64 2)) fun x6=>OX (iaD 3 x5 x6) fun x7=>OX (ldD S 3 true x7) fun x8=>al [.i .i64 0,.i .i64 0,.i .i64 0] S fun x9 S10=>OX (stD S10 3 true x9 x8) fun S12=>OX (ldD S12 1 false a3) fun x13=>OX (faD 1 x9) fun x14=>OX (ldD S12 1 false x14) fun x15=>OX (ldD S12 1 false a3) fun x16=>OX (faD 2 x9) fun x17=>OX (ldD S12 1 false x17) fun x18=>OX (fnD x13) fun q20=>OX (cf q20.1 ([x15]++q20.2) S12) fun p21=>OX (ldD p21.2 1 false a3) fun x22=>deq x22 x16=true ∧
 (OX (ldD p21.2 1 false x17) fun x23=>deq x23 x18=true ∧
 (OX (faD 1 x9) fun x24=>OX (fnD x16) fun q26=>OX (cf q26.1 ([x18]++q26.2) p21.2) fun p27=>OX (stD p27.2 1 false x24 p21.1) fun S29=>OX (faD 2 x9) fun x30=>OX (stD S29 1 false x30 p27.1) fun S32=>OX (faD 1 a4) fun x33=>OX (ldD S32 1 false x33) fun x34=>OX (ldD S32 3 true x9) fun x35=>OX (cellsV 3 true [x35]) fun x36=>OX (appD 3 false x34 (.sl 3 false x36 .ro) S32) fun p38=>OX (faD 1 a4) fun x39=>OX (stD p38.2 1 false x39 p38.1) fun S41=>OX (ldD S41 1 false a1) fun x42=>OX (faD 1 a4) fun x43=>OX (ldD S41 1 false x43) fun x44=>OX (lenD false x44) fun x45=>OX (binD .sub .num x45 (.i .i64 1)) fun x46=>OX (binD .add .num x46 (.i .i64 2)) fun x47=>OX (muD' (.one .i) S41 x42 a0 x47) fun S49=>OX (ldD S49 1 false a1) fun x50=>OX (lkD' (.one .i) false (.i .i64 0) S49 x50 a0) fun x51=>Post x51 S49)))
theorem e115:wp cf c115 (frame0 d115 [a0,a1,a2,a3,a4]) S (FinK d115.res Post)=s115 cf a0 a1 a2 a3 a4 S Post:=wpS_of (by kernel_rfl)
theorem f115 (a0 a1 a2 a3 a4:D) (S:Store) (Post:PT) (h:s115 (call dp) a0 a1 a2 a3 a4 S Post):∃ r S',call dp 115 [a0,a1,a2,a3,a4] S=some (r,S')∧Post r S':=call_s (f:=d115) rfl ⟨rfl,by decide⟩ (by rw [←e115] at h;exact h)
def s49 (cf:CallF) (a0:D) (S:Store) (Post:PT):Prop:=
 OX (binD .eql .sl a0 (.sl 2 true [] .ro)) fun x1=>WB x1
 (Post (.sl 2 true [] .ro) S)
 (OX (cellsV 2 true []) fun x2=>OX (appD 2 false (bslO 2 x2 S).1 a0 (bslO 2 x2 S).2) fun p4=>Post p4.1 p4.2)
theorem e49:wp cf c49 (frame0 d49 [a0]) S (FinK d49.res Post)=s49 cf a0 S Post:=wpS_of (by kernel_rfl)
theorem i49 (a0:D) (r:D) (ha:noRefL (stripL [a0])=true) (hr:noRef r=true) (h:s49 (call dp) (strip a0) [] fun d _=>stripT d=r):isoCall (call dp) 49 [a0]=some r:=iso_s (f:=d49) rfl ⟨rfl,by decide⟩ ha hr (by rw [←e49] at h;exact h)
def s73_r0 (cf:CallF) (a0 a1 a4 a12 a13 a14:D) (S:Store) (Q:QT):Prop:=
 Q .ret (mkf 26 [(0,.top),(1,.top),(4,(.b true)),(12,.top),(13,.top),(14,.top)]) S
theorem e73_r0:wp cf c73_r0 (mkf 26 [(0,a0),(1,a1),(4,a4),(12,a12),(13,a13),(14,a14)]) S Q=s73_r0 cf a0 a1 a4 a12 a13 a14 S Q:=wpS_of (by kernel_rfl)
def s73_0 (cf:CallF) (a0 a1 a4 a12 a13 a14:D) (S:Store) (Q:QT):Prop:=
 OX (binD .lss .num a13 a12) fun x1=>WB x1
 (OX (iaD 3 a0 a13) fun x2=>OX (ldD S 3 true x2) fun x3=>OX (iaD 3 a1 a13) fun x4=>OX (ldD S 3 true x4) fun x5=>OX (binD .neq (.agg [.i,.i,.i]) x3 x5) fun x6=>WB x6
 (Q .ret (mkf 26 [(0,.top),(1,.top),(4,(.b false)),(12,.top),(13,.top),(14,.top)]) S)
 (OX (binD .add .num a13 (.i .i64 1)) fun x7=>Q .normal (mkf 26 [(0,a0),(1,a1),(4,a4),(12,a12),(13,x7),(14,.top)]) S))
 (Q (.exit 0) (mkf 26 [(0,a0),(1,a1),(4,a4),(12,a12),(13,a13),(14,x1)]) S)
theorem e73_0:wp cf c73_0 (fkill (mkf 26 [(0,a0),(1,a1),(4,a4),(12,a12),(13,a13),(14,a14)]) []) S Q=s73_0 cf a0 a1 a4 a12 a13 a14 S Q:=wpS_of (by kernel_rfl)
def s73 (cf:CallF) (a0 a1:D) (S:Store) (Post:PT):Prop:=
 OX (lenD false a0) fun x8=>OX (lenD false a1) fun x9=>OX (binD .neq .num x8 x9) fun x10=>WB x10
 (Post (.b false) S)
 (OX (lenD false a0) fun x11=>W cf (.loop [] c73_0) (mkf 26 [(0,a0),(1,a1),(4,.top),(12,x11),(13,(.i .i64 0)),(14,.top)]) S (Qblk 0 (QS cf c73_r0 (FinK [.t 4] Post))))
theorem e73:wp cf c73 (frame0 d73 [a0,a1]) S (FinK d73.res Post)=s73 cf a0 a1 S Post:=wpS_of (by kernel_rfl)
theorem i73 (a0 a1:D) (r:D) (ha:noRefL (stripL [a0,a1])=true) (hr:noRef r=true) (h:s73 (call dp) (strip a0) (strip a1) [] fun d _=>stripT d=r):isoCall (call dp) 73 [a0,a1]=some r:=iso_s (f:=d73) rfl ⟨rfl,by decide⟩ ha hr (by rw [←e73] at h;exact h)
def s74_r0 (cf:CallF) (a0 a1 a4 a12 a13 a14:D) (S:Store) (Q:QT):Prop:=
 Q .ret (mkf 26 [(0,.top),(1,.top),(4,(.b true)),(12,.top),(13,.top),(14,.top)]) S
theorem e74_r0:wp cf c74_r0 (mkf 26 [(0,a0),(1,a1),(4,a4),(12,a12),(13,a13),(14,a14)]) S Q=s74_r0 cf a0 a1 a4 a12 a13 a14 S Q:=wpS_of (by kernel_rfl)
def s74_0 (cf:CallF) (a0 a1 a4 a12 a13 a14:D) (S:Store) (Q:QT):Prop:=
 OX (binD .lss .num a13 a12) fun x1=>WB x1
 (OX (iaD 2 a0 a13) fun x2=>OX (ldD S 2 true x2) fun x3=>OX (iaD 2 a1 a13) fun x4=>OX (ldD S 2 true x4) fun x5=>OX (binD .neq (.agg [.i,.i]) x3 x5) fun x6=>WB x6
 (Q .ret (mkf 26 [(0,.top),(1,.top),(4,(.b false)),(12,.top),(13,.top),(14,.top)]) S)
 (OX (binD .add .num a13 (.i .i64 1)) fun x7=>Q .normal (mkf 26 [(0,a0),(1,a1),(4,a4),(12,a12),(13,x7),(14,.top)]) S))
 (Q (.exit 0) (mkf 26 [(0,a0),(1,a1),(4,a4),(12,a12),(13,a13),(14,x1)]) S)
theorem e74_0:wp cf c74_0 (fkill (mkf 26 [(0,a0),(1,a1),(4,a4),(12,a12),(13,a13),(14,a14)]) []) S Q=s74_0 cf a0 a1 a4 a12 a13 a14 S Q:=wpS_of (by kernel_rfl)
def s74 (cf:CallF) (a0 a1:D) (S:Store) (Post:PT):Prop:=
 OX (lenD false a0) fun x8=>OX (lenD false a1) fun x9=>OX (binD .neq .num x8 x9) fun x10=>WB x10
 (Post (.b false) S)
 (OX (lenD false a0) fun x11=>W cf (.loop [] c74_0) (mkf 26 [(0,a0),(1,a1),(4,.top),(12,x11),(13,(.i .i64 0)),(14,.top)]) S (Qblk 0 (QS cf c74_r0 (FinK [.t 4] Post))))
theorem e74:wp cf c74 (frame0 d74 [a0,a1]) S (FinK d74.res Post)=s74 cf a0 a1 S Post:=wpS_of (by kernel_rfl)
theorem i74 (a0 a1:D) (r:D) (ha:noRefL (stripL [a0,a1])=true) (hr:noRef r=true) (h:s74 (call dp) (strip a0) (strip a1) [] fun d _=>stripT d=r):isoCall (call dp) 74 [a0,a1]=some r:=iso_s (f:=d74) rfl ⟨rfl,by decide⟩ ha hr (by rw [←e74] at h;exact h)
def s33 (cf:CallF) (a0:D) (S:Store) (Post:PT):Prop:=
 bxx 3 true a0 S fun x1 S2=>OX (faD 0 x1) fun x3=>OX (ldD S2 1 false x3) fun x4=>OX (isoCall cf 48 [x4]) fun x5=>OX (unD .not x5) fun x6=>OX (gsel x6 false (faD 1 x1)) fun x7=>OX (gsel x6 false (ldD S2 1 false x7)) fun x8=>OX (gsel x6 false (lenD false x8)) fun x9=>OX (gsel x6 false (binD .gtr .num x9 (.i .i64 4096))) fun x10=>OX (pickD x6 (.b true) x10) fun x11=>OX (gsel x11 false (ldD S2 3 true x1)) fun x12=>OX (gsel x11 false (isoCall cf 71 [x12])) fun x13=>OX (gsel x11 false (unD .not x13)) fun x14=>OX (pickD x11 (.b true) x14) fun x15=>WB x15
 (Post (.b false) S2)
 (OX (faD 0 x1) fun x16=>OX (ldD S2 1 false x16) fun x17=>OX (faD 1 x1) fun x18=>OX (ldD S2 1 false x18) fun x19=>OX (faD 2 x1) fun x20=>OX (ldD S2 1 false x20) fun x21=>OX (isoCall cf 72 [x17,x19,x21]) fun x22=>al [.sl 2 true [] .ro,.sl 3 true [] .ro,.i .i64 0] S2 fun x23 S24=>OX (stD S24 3 true x23 x22) fun S26=>OX (faD 2 x23) fun x27=>OX (ldD S26 1 false x27) fun x28=>OX (faD 2 x1) fun x29=>OX (ldD S26 1 false x29) fun x30=>OX (binD .eql .num x28 x30) fun x31=>OX (gsel x31 true (faD 1 x23)) fun x32=>OX (gsel x31 true (ldD S26 1 false x32)) fun x33=>OX (gsel x31 true (faD 1 x1)) fun x34=>OX (gsel x31 true (ldD S26 1 false x34)) fun x35=>OX (gsel x31 true (isoCall cf 73 [x33,x35])) fun x36=>OX (pickD x31 x36 (.b false)) fun x37=>Post x37 S26)
theorem e33:wp cf c33 (frame0 d33 [a0]) S (FinK d33.res Post)=s33 cf a0 S Post:=wpS_of (by kernel_rfl)
theorem i33 (a0:D) (r:D) (ha:noRefL (stripL [a0])=true) (hr:noRef r=true) (h:s33 (call dp) (strip a0) [] fun d _=>stripT d=r):isoCall (call dp) 33 [a0]=some r:=iso_s (f:=d33) rfl ⟨rfl,by decide⟩ ha hr (by rw [←e33] at h;exact h)
def s12 (cf:CallF) (a0:D) (S:Store) (Post:PT):Prop:=
 OX (lenD false a0) fun x1=>OX (binD .leq .num x1 (.i .i64 7)) fun x2=>Post x2 S
theorem e12:wp cf c12 (frame0 d12 [a0]) S (FinK d12.res Post)=s12 cf a0 S Post:=wpS_of (by kernel_rfl)
theorem i12 (a0:D) (r:D) (ha:noRefL (stripL [a0])=true) (hr:noRef r=true) (h:s12 (call dp) (strip a0) [] fun d _=>stripT d=r):isoCall (call dp) 12 [a0]=some r:=iso_s (f:=d12) rfl ⟨rfl,by decide⟩ ha hr (by rw [←e12] at h;exact h)
def s16_r0 (cf:CallF) (a0 a2 a3 a4 a8 a19:D) (S:Store) (Q:QT):Prop:=
 OX (binD .add .num a3 (.i .i64 1)) fun x1=>Q .normal (mkf 34 [(0,a0),(2,a2),(3,x1),(4,.top),(8,a8),(19,.top)]) S
theorem e16_r0:wp cf c16_r0 (mkf 34 [(0,a0),(2,a2),(3,a3),(4,a4),(8,a8),(19,a19)]) S Q=s16_r0 cf a0 a2 a3 a4 a8 a19 S Q:=wpS_of (by kernel_rfl)
def s16_0 (cf:CallF) (a0 a2 a3 a4 a8 a19:D) (S:Store) (Q:QT):Prop:=
 OX (binD .lss .num a4 a3) fun x2=>WB x2
 (OX (iaD 2 a0 a4) fun x3=>OX (ldD S 2 true x3) fun x4=>OX (iaD 2 a0 a3) fun x5=>OX (ldD S 2 true x5) fun x6=>OX (binD .eql (.agg [.i,.i]) x4 x6) fun x7=>WB x7
 (Q .ret (mkf 34 [(0,.top),(2,(.b false)),(3,.top),(4,.top),(8,a8),(19,.top)]) S)
 (OX (binD .add .num a4 (.i .i64 1)) fun x8=>Q .normal (mkf 34 [(0,a0),(2,a2),(3,a3),(4,x8),(8,a8),(19,.top)]) S))
 (Q (.exit 2) (mkf 34 [(0,a0),(2,a2),(3,a3),(4,a4),(8,a8),(19,x2)]) S)
theorem e16_0:wp cf c16_0 (fkill (mkf 34 [(0,a0),(2,a2),(3,a3),(4,a4),(8,a8),(19,a19)]) []) S Q=s16_0 cf a0 a2 a3 a4 a8 a19 S Q:=wpS_of (by kernel_rfl)
def s16_r1 (cf:CallF) (a0 a2 a3 a4 a8 a19:D) (S:Store) (Q:QT):Prop:=
 OX (lenD false a0) fun x9=>OX (binD .leq .num x9 (.i .i64 4096)) fun x10=>Q .ret (mkf 34 [(0,.top),(2,x10),(3,.top),(4,a4),(8,.top),(19,a19)]) S
theorem e16_r1:wp cf c16_r1 (mkf 34 [(0,a0),(2,a2),(3,a3),(4,a4),(8,a8),(19,a19)]) S Q=s16_r1 cf a0 a2 a3 a4 a8 a19 S Q:=wpS_of (by kernel_rfl)
def s16_1 (cf:CallF) (a0 a2 a3 a4 a8 a19:D) (S:Store) (Q:QT):Prop:=
 OX (lenD false a0) fun x11=>OX (binD .lss .num a3 x11) fun x12=>WB x12
 (OX (iaD 2 a0 a3) fun x13=>OX (ldD S 2 true x13) fun x14=>OX (isoCall cf 51 [x14]) fun x15=>OX (unD .not x15) fun x16=>WB x16
 (Q .ret (mkf 34 [(0,.top),(2,(.b false)),(3,.top),(4,a4),(8,.top),(19,a19)]) S)
 (W cf (.loop [] c16_0) (mkf 34 [(0,a0),(2,a2),(3,a3),(4,(.i .i64 0)),(8,.top),(19,a19)]) S (Qblk 2 (Qblk 1 (QS cf c16_r0 Q)))))
 (Q (.exit 0) (mkf 34 [(0,a0),(2,a2),(3,a3),(4,a4),(8,x12),(19,a19)]) S)
theorem e16_1:wp cf c16_1 (fkill (mkf 34 [(0,a0),(2,a2),(3,a3),(4,a4),(8,a8),(19,a19)]) []) S Q=s16_1 cf a0 a2 a3 a4 a8 a19 S Q:=wpS_of (by kernel_rfl)
def s16 (cf:CallF) (a0:D) (S:Store) (Post:PT):Prop:=
 W cf (.loop [] c16_1) (mkf 34 [(0,a0),(2,.top),(3,(.i .i64 0)),(4,.top),(8,.top),(19,.top)]) S (Qblk 0 (QS cf c16_r1 (FinK [.t 2] Post)))
theorem e16:wp cf c16 (frame0 d16 [a0]) S (FinK d16.res Post)=s16 cf a0 S Post:=wpS_of (by kernel_rfl)
theorem i16 (a0:D) (r:D) (ha:noRefL (stripL [a0])=true) (hr:noRef r=true) (h:s16 (call dp) (strip a0) [] fun d _=>stripT d=r):isoCall (call dp) 16 [a0]=some r:=iso_s (f:=d16) rfl ⟨rfl,by decide⟩ ha hr (by rw [←e16] at h;exact h)
def s17_r0 (cf:CallF) (a2 a3 a4 a5 a32:D) (S:Store) (Q:QT):Prop:=
 Q .ret (mkf 46 [(2,.top),(3,.top),(4,(.b true)),(5,.top),(32,.top)]) S
theorem e17_r0:wp cf c17_r0 (mkf 46 [(2,a2),(3,a3),(4,a4),(5,a5),(32,a32)]) S Q=s17_r0 cf a2 a3 a4 a5 a32 S Q:=wpS_of (by kernel_rfl)
def s17_0 (cf:CallF) (a2 a3 a4 a5 a32:D) (S:Store) (Q:QT):Prop:=
 OX (faD 1 a2) fun x1=>OX (ldD S 1 false x1) fun x2=>OX (lenD false x2) fun x3=>OX (binD .lss .num a5 x3) fun x4=>WB x4
 (OX (faD 1 a2) fun x5=>OX (ldD S 1 false x5) fun x6=>OX (iaD 3 x6 a5) fun x7=>OX (ldD S 3 true x7) fun x8=>OX (faD 1 a3) fun x9=>OX (ldD S 1 false x9) fun x10=>OX (iaD 3 x10 a5) fun x11=>OX (ldD S 3 true x11) fun x12=>OX (binD .neq (.agg [.i,.i,.i]) x8 x12) fun x13=>WB x13
 (Q .ret (mkf 46 [(2,.top),(3,.top),(4,(.b false)),(5,.top),(32,.top)]) S)
 (OX (binD .add .num a5 (.i .i64 1)) fun x14=>Q .normal (mkf 46 [(2,a2),(3,a3),(4,a4),(5,x14),(32,.top)]) S))
 (Q (.exit 0) (mkf 46 [(2,a2),(3,a3),(4,a4),(5,a5),(32,x4)]) S)
theorem e17_0:wp cf c17_0 (fkill (mkf 46 [(2,a2),(3,a3),(4,a4),(5,a5),(32,a32)]) []) S Q=s17_0 cf a2 a3 a4 a5 a32 S Q:=wpS_of (by kernel_rfl)
def s17 (cf:CallF) (a0 a1:D) (S:Store) (Post:PT):Prop:=
 bxx 3 true a0 S fun x15 S16=>bxx 3 true a1 S16 fun x17 S18=>OX (faD 2 x15) fun x19=>OX (ldD S18 1 false x19) fun x20=>OX (faD 2 x17) fun x21=>OX (ldD S18 1 false x21) fun x22=>OX (binD .neq .num x20 x22) fun x23=>OX (gsel x23 false (faD 0 x15)) fun x24=>OX (gsel x23 false (ldD S18 1 false x24)) fun x25=>OX (gsel x23 false (faD 0 x17)) fun x26=>OX (gsel x23 false (ldD S18 1 false x26)) fun x27=>OX (gsel x23 false (isoCall cf 52 [x25,x27])) fun x28=>OX (gsel x23 false (unD .not x28)) fun x29=>OX (pickD x23 (.b true) x29) fun x30=>OX (gsel x30 false (faD 1 x15)) fun x31=>OX (gsel x30 false (ldD S18 1 false x31)) fun x32=>OX (gsel x30 false (lenD false x32)) fun x33=>OX (gsel x30 false (faD 1 x17)) fun x34=>OX (gsel x30 false (ldD S18 1 false x34)) fun x35=>OX (gsel x30 false (lenD false x35)) fun x36=>OX (gsel x30 false (binD .neq .num x33 x36)) fun x37=>OX (pickD x30 (.b true) x37) fun x38=>WB x38
 (Post (.b false) S18)
 (W cf (.loop [] c17_0) (mkf 46 [(2,x15),(3,x17),(4,.top),(5,(.i .i64 0)),(32,.top)]) S18 (Qblk 0 (QS cf c17_r0 (FinK [.t 4] Post))))
theorem e17:wp cf c17 (frame0 d17 [a0,a1]) S (FinK d17.res Post)=s17 cf a0 a1 S Post:=wpS_of (by kernel_rfl)
theorem i17 (a0 a1:D) (r:D) (ha:noRefL (stripL [a0,a1])=true) (hr:noRef r=true) (h:s17 (call dp) (strip a0) (strip a1) [] fun d _=>stripT d=r):isoCall (call dp) 17 [a0,a1]=some r:=iso_s (f:=d17) rfl ⟨rfl,by decide⟩ ha hr (by rw [←e17] at h;exact h)
def s52_r0 (cf:CallF) (a0 a1 a4 a5 a14:D) (S:Store) (Q:QT):Prop:=
 Q .ret (mkf 26 [(0,.top),(1,.top),(4,(.b true)),(5,.top),(14,.top)]) S
theorem e52_r0:wp cf c52_r0 (mkf 26 [(0,a0),(1,a1),(4,a4),(5,a5),(14,a14)]) S Q=s52_r0 cf a0 a1 a4 a5 a14 S Q:=wpS_of (by kernel_rfl)
def s52_0 (cf:CallF) (a0 a1 a4 a5 a14:D) (S:Store) (Q:QT):Prop:=
 OX (lenD false a0) fun x1=>OX (binD .lss .num a5 x1) fun x2=>WB x2
 (OX (iaD 2 a0 a5) fun x3=>OX (ldD S 2 true x3) fun x4=>OX (iaD 2 a1 a5) fun x5=>OX (ldD S 2 true x5) fun x6=>OX (binD .neq (.agg [.i,.i]) x4 x6) fun x7=>WB x7
 (Q .ret (mkf 26 [(0,.top),(1,.top),(4,(.b false)),(5,.top),(14,.top)]) S)
 (OX (binD .add .num a5 (.i .i64 1)) fun x8=>Q .normal (mkf 26 [(0,a0),(1,a1),(4,a4),(5,x8),(14,.top)]) S))
 (Q (.exit 0) (mkf 26 [(0,a0),(1,a1),(4,a4),(5,a5),(14,x2)]) S)
theorem e52_0:wp cf c52_0 (fkill (mkf 26 [(0,a0),(1,a1),(4,a4),(5,a5),(14,a14)]) []) S Q=s52_0 cf a0 a1 a4 a5 a14 S Q:=wpS_of (by kernel_rfl)
def s52 (cf:CallF) (a0 a1:D) (S:Store) (Post:PT):Prop:=
 OX (lenD false a0) fun x9=>OX (lenD false a1) fun x10=>OX (binD .neq .num x9 x10) fun x11=>WB x11
 (Post (.b false) S)
 (W cf (.loop [] c52_0) (mkf 26 [(0,a0),(1,a1),(4,.top),(5,(.i .i64 0)),(14,.top)]) S (Qblk 0 (QS cf c52_r0 (FinK [.t 4] Post))))
theorem e52:wp cf c52 (frame0 d52 [a0,a1]) S (FinK d52.res Post)=s52 cf a0 a1 S Post:=wpS_of (by kernel_rfl)
theorem i52 (a0 a1:D) (r:D) (ha:noRefL (stripL [a0,a1])=true) (hr:noRef r=true) (h:s52 (call dp) (strip a0) (strip a1) [] fun d _=>stripT d=r):isoCall (call dp) 52 [a0,a1]=some r:=iso_s (f:=d52) rfl ⟨rfl,by decide⟩ ha hr (by rw [←e52] at h;exact h)
end Go.Proofs.YtjlmeikcfdanmaaGreatDoor.DE

namespace Go.Proofs.YtjlmeikcfdanmaaGreatDoor.BT
inductive T where
 | leaf (b:Bool)
 | node (v:Nat) (l h:T)
abbrev Nd:=Int × Int × Int
noncomputable instance:DecidableEq T:=fun _ _=>Classical.propDecidable _
def T.size:T→Nat
 | .leaf _=>0
 | .node _ l h=>l.size+h.size+1
noncomputable def pos:List T→T→Nat
 | [],_=>0
 | x::l,t=>if x=t then 0 else pos l t+1
theorem pos_lt {t:T}:∀ {L:List T},t∈L→pos L t<L.length
 | x::l,h=>by
  unfold pos
  split
  ·simp
  ·rename_i hx
   rcases List.mem_cons.1 h with h | h
   ·exact absurd h.symm hx
   ·simpa using pos_lt h
theorem pos_get {t:T}:∀ {L:List T},t∈L→L[pos L t]? = some t
 | x::l,h=>by
  unfold pos
  split
  ·rename_i hx;simp [hx]
  ·rename_i hx
   rcases List.mem_cons.1 h with h | h
   ·exact absurd h.symm hx
   ·simpa using pos_get h
theorem pos_app {t:T} (M:List T):∀ {L:List T},t∈L→pos (L++M) t=pos L t
 | x::l,h=>by
  simp only [List.cons_append,pos]
  split
  ·rfl
  ·rename_i hx
   rcases List.mem_cons.1 h with h | h
   ·exact absurd h.symm hx
   ·rw [pos_app M h]
theorem pos_new {t:T} (M:List T):∀ {L:List T},t ∉ L→pos (L++t::M) t=L.length
 | [],_=>by simp [pos]
 | x::l,h=>by
  simp only [List.cons_append,pos]
  split
  ·rename_i hx;exact absurd (by simp [hx]) h
  ·rw [pos_new M (fun k=>h (List.mem_cons_of_mem _ k))];rfl
theorem pos_inj {L:List T} {t s:T} (ht:t∈L) (hs:s∈L) (h:pos L t=pos L s):t=s:=by
 have a:=pos_get ht
 rw [h,pos_get hs] at a
 injection a with a
 exact a.symm
noncomputable def code (L:List T):T→Int
 | .leaf b=>if b then 1 else 0
 | .node v l h=>(pos L (.node v l h):Int)+2
def sub (L:List T):T→Prop
 | .leaf _=>True
 | .node v l h=>.node v l h∈L
theorem sub_mono {L M:List T} (h:∀ t,t∈L→t∈M):∀ {t:T},sub L t→sub M t
 | .leaf _,_=>trivial
 | .node _ _ _,k=>h _ k
theorem sub_app {L:List T} (M:List T) {t:T} (h:sub L t):sub (L++M) t:=sub_mono (fun _ k=>List.mem_append_left _ k) h
theorem code_app {L:List T} (M:List T):∀ {t:T},sub L t→code (L++M) t=code L t
 | .leaf _,_=>rfl
 | .node _ _ _,h=>by simp only [code];rw [pos_app M h]
theorem code_inj {L:List T}:∀ {t s:T},sub L t→sub L s→code L t=code L s→t=s
 | .leaf a,.leaf b,_,_,h=>by cases a <;> cases b <;> simp [code] at h ⊢
 | .leaf a,.node _ _ _,_,_,h=>by cases a <;> simp only [code] at h <;> simp at h <;> omega
 | .node _ _ _,.leaf b,_,_,h=>by cases b <;> simp only [code] at h <;> simp at h <;> omega
 | .node _ _ _,.node _ _ _,ht,hs,h=>pos_inj ht hs (by simp only [code] at h;omega)
theorem code_nonneg (L:List T):∀ t:T,0≤code L t
 | .leaf a=>by cases a <;> simp [code]
 | .node _ _ _=>by simp only [code];omega
theorem code_lt {L:List T}:∀ {t:T},sub L t→code L t<L.length+2
 | .leaf a,_=>by cases a <;> simp [code] <;> omega
 | .node _ _ _,h=>by simp only [code];have:=pos_lt h;omega
theorem code_leaf_lt (L:List T) (b:Bool):code L (.leaf b)<2:=by cases b <;> simp [code]
theorem code_node_ge (L:List T) (v:Nat) (l h:T):2≤code L (.node v l h):=by simp only [code];omega
noncomputable def nd (L:List T):T→Nd
 | .leaf _=>(0,0,0)
 | .node v l h=>((v:Int),code L l,code L h)
def kids (L:List T):T→Prop
 | .leaf _=>False
 | .node _ l h=>sub L l∧sub L h
theorem kids_mono {L M:List T} (h:∀ t,t∈L→t∈M):∀ {t:T},kids L t→kids M t
 | .leaf _,k=>k
 | .node _ _ _,k=>⟨sub_mono h k.1,sub_mono h k.2⟩
def ClR:List T→Prop
 | []=>True
 | t::R=>ClR R∧t ∉ R∧kids R t
def Cl (L:List T):Prop:=ClR L.reverse
theorem Cl_nil:Cl []:=trivial
theorem Cl_snoc {L:List T} {t:T}:Cl (L++[t])↔Cl L∧t ∉ L∧kids L t:=by
 have a:t ∉ L.reverse↔t ∉ L:=by simp
 have b:kids L.reverse t↔kids L t:=⟨kids_mono (fun _ h=>by simpa using h),kids_mono (fun _ h=>by simpa using h)⟩
 simp only [Cl,List.reverse_append,List.reverse_cons,List.reverse_nil,List.nil_append,List.singleton_append,ClR,a,b]
theorem snoc_ind {α:Type} {P:List α→Prop} (h0:P []) (h1:∀ L t,P L→P (L++[t])) (L:List α):P L:=by
 have:∀ R:List α,P R.reverse:=by
  intro R
  induction R with
  | nil=>exact h0
  | cons t R ih=>rw [List.reverse_cons];exact h1 _ _ ih
 have:=this L.reverse
 rwa [List.reverse_reverse] at this
theorem Cl_kids {L:List T}:Cl L→∀ t,t∈L→kids L t:=by
 induction L using snoc_ind with
 | h0=>intro _ t h;cases h
 | h1 L s ih=>
  intro h t ht
  obtain ⟨h1,_,h3⟩:=Cl_snoc.1 h
  rcases List.mem_append.1 ht with k | k
  ·exact kids_mono (fun _ q=>List.mem_append_left _ q) (ih h1 t k)
  ·rw [List.mem_singleton.1 k];exact kids_mono (fun _ q=>List.mem_append_left _ q) h3
theorem nd_app {L:List T} (M:List T):∀ {t:T},kids L t→nd (L++M) t=nd L t
 | .node _ _ _,h=>by simp only [nd];rw [code_app M h.1,code_app M h.2]
theorem nd_inj {L:List T}:∀ {t s:T},kids L t→kids L s→nd L t=nd L s→t=s
 | .node _ _ _,.node _ _ _,ht,hs,h=>by
  simp only [nd,Prod.mk.injEq] at h
  rw [code_inj ht.1 hs.1 h.2.1,code_inj ht.2 hs.2 h.2.2]
  have:=h.1
  congr 1
  omega
noncomputable def nds (L:List T):List Nd:=L.map (nd L)
theorem nds_len (L:List T):(nds L).length=L.length:=by simp [nds]
theorem nds_snoc {L:List T} {t:T} (h:Cl (L++[t])):nds (L++[t])=nds L++[nd L t]:=by
 obtain ⟨h1,_,h3⟩:=Cl_snoc.1 h
 simp only [nds,List.map_append,List.map_cons,List.map_nil,nd_app [t] h3]
 congr 1
 apply List.map_congr_left
 intro s hs
 exact nd_app [t] (Cl_kids h1 s hs)
theorem nds_get {L:List T} {t:T} (h:t∈L):(nds L)[pos L t]? = some (nd L t):=by
 simp [nds,pos_get h]
theorem nds_mem {L:List T} (h:Cl L) {t:T} (k:kids L t):nd L t∈nds L↔t∈L:=by
 constructor
 ·intro m
  obtain ⟨s,hs,e⟩:=List.mem_map.1 m
  rw [←nd_inj (Cl_kids h s hs) k e];exact hs
 ·exact fun m=>List.mem_map.2 ⟨t,m,rfl⟩
noncomputable def post:T→List T→List T
 | .leaf _,M=>M
 | .node v l h,M=>if .node v l h∈M then M else post h (post l M)++[.node v l h]
def Her (P:T→Prop):Prop:=∀ v l h,P (.node v l h)→P l∧P h
theorem size_her (n:Nat):Her (fun t=>t.size≤n):=by
 intro v l h k
 simp only [T.size] at k
 constructor <;> omega
theorem post_spec:∀ (t:T) (M:List T),Cl M→∃ N,post t M=M++N∧Cl (M++N)∧sub (M++N) t∧(∀ P,Her P→P t→∀ s,s∈N→P s)∧N.length≤t.size
 | .leaf _,M,h=>⟨[],by simp [post],by simpa using h,trivial,(fun _ _ _ _ k=>by cases k),by simp⟩
 | .node v l h,M,hM=>by
  unfold post
  by_cases hm : .node v l h∈M
  ·rw [if_pos hm]
   exact ⟨[],by simp,by simpa using hM,by simpa [sub] using hm,(fun _ _ _ _ k=>by cases k),by simp⟩
  ·rw [if_neg hm]
   obtain ⟨N1,e1,c1,s1,p1,z1⟩:=post_spec l M hM
   rw [e1]
   obtain ⟨N2,e2,c2,s2,p2,z2⟩:=post_spec h (M++N1) c1
   rw [e2]
   refine ⟨N1++N2++[.node v l h],by simp,?_,by simp [sub],?_,by simp only [List.length_append,List.length_singleton,T.size];omega⟩
   ·have:M++(N1++N2++[T.node v l h])=M++N1++N2++[T.node v l h]:=by simp
    rw [this]
    refine Cl_snoc.2 ⟨c2,?_,sub_app _ s1,s2⟩
    intro k
    rcases List.mem_append.1 k with k | k
    ·rcases List.mem_append.1 k with k | k
     ·exact hm k
     ·have:=p1 _ (size_her l.size) (Nat.le_refl _) _ k
      simp only [T.size] at this;omega
    ·have:=p2 _ (size_her h.size) (Nat.le_refl _) _ k
     simp only [T.size] at this;omega
   ·intro P hP hp s hs
    rcases List.mem_append.1 hs with hs | hs
    ·rcases List.mem_append.1 hs with hs | hs
     ·exact p1 P hP (hP _ _ _ hp).1 s hs
     ·exact p2 P hP (hP _ _ _ hp).2 s hs
    ·rw [List.mem_singleton.1 hs];exact hp
def top (n:Nat):T→Nat
 | .leaf _=>n
 | .node v _ _=>v
def Wf (n:Nat):T→Prop
 | .leaf _=>True
 | .node v l h=>v<n∧v<top n l∧v<top n h∧l≠h∧Wf n l∧Wf n h
theorem Wf_her (n:Nat):Her (Wf n):=fun _ _ _ h=>⟨h.2.2.2.2.1,h.2.2.2.2.2⟩
def fn:T→(Nat→Bool)→Bool
 | .leaf b,_=>b
 | .node v l h,s=>if s v then fn h s else fn l s
theorem fn_agree {n:Nat} {s r:Nat→Bool}:∀ {t:T},Wf n t→(∀ i,top n t≤i→i<n→s i=r i)→fn t s=fn t r
 | .leaf _,_,_=>rfl
 | .node v l h,w,e=>by
  have hl:fn l s=fn l r:=fn_agree w.2.2.2.2.1 (fun i hi hn=>e i (by have:=w.2.1;simp only [top];omega) hn)
  have hh:fn h s=fn h r:=fn_agree w.2.2.2.2.2 (fun i hi hn=>e i (by have:=w.2.2.1;simp only [top];omega) hn)
  simp only [fn,e v (Nat.le_refl _) w.1,hl,hh]
def upd (s:Nat→Bool) (v:Nat) (b:Bool):Nat→Bool:=fun i=>if i=v then b else s i
theorem fn_upd {n v:Nat} {t:T} (w:Wf n t) (h:v<top n t) (s:Nat→Bool) (b:Bool):fn t (upd s v b)=fn t s:=
 fn_agree w (fun i hi _=>by have:i≠v:=(by omega);simp [upd,this])
theorem fn_lo {n v:Nat} {l h:T} (w:Wf n (.node v l h)) (s:Nat→Bool):fn (.node v l h) (upd s v false)=fn l s:=by
 simp [fn,upd];exact fn_upd w.2.2.2.2.1 w.2.1 s false
theorem fn_hi {n v:Nat} {l h:T} (w:Wf n (.node v l h)) (s:Nat→Bool):fn (.node v l h) (upd s v true)=fn h s:=by
 simp [fn,upd];exact fn_upd w.2.2.2.2.2 w.2.2.1 s true
theorem canon {n:Nat}:∀ (k:Nat) (t s:T),t.size+s.size≤k→Wf n t→Wf n s→(∀ a,fn t a=fn s a)→t=s:=by
 intro k
 induction k with
 | zero=>
  intro t s hk _ _ h
  cases t with
  | leaf a=>
   cases s with
   | leaf b=>rw [show a=b from h (fun _=>false)]
   | node _ _ _=>simp [T.size] at hk
  | node _ _ _=>simp [T.size] at hk
 | succ k ih=>
  have key:∀ (v:Nat) (l h s:T),(T.node v l h).size+s.size≤k+1→Wf n (.node v l h)→Wf n s→v<top n s→(∀ a,fn (.node v l h) a=fn s a)→False:=by
   intro v l h s hk hw hs hv he
   have el:∀ a,fn l a=fn s a:=fun a=>by rw [←fn_lo hw a,he,fn_upd hs hv]
   have eh:∀ a,fn h a=fn s a:=fun a=>by rw [←fn_hi hw a,he,fn_upd hs hv]
   simp only [T.size] at hk
   have a:=ih l s (by omega) hw.2.2.2.2.1 hs el
   have b:=ih h s (by omega) hw.2.2.2.2.2 hs eh
   exact hw.2.2.2.1 (a.trans b.symm)
  intro t s hk ht hs he
  cases t with
  | leaf a=>
   cases s with
   | leaf b=>rw [show a=b from he (fun _=>false)]
   | node v l h=>exact (key v l h (.leaf a) (by rw [Nat.add_comm];exact hk) hs ht hs.1 (fun x=>(he x).symm)).elim
  | node v l h=>
   cases s with
   | leaf b=>exact (key v l h (.leaf b) hk ht hs ht.1 he).elim
   | node v' l' h'=>
    rcases Nat.lt_trichotomy v v' with c | c | c
    ·exact (key v l h _ hk ht hs c he).elim
    ·subst c
     have el:∀ a,fn l a=fn l' a:=fun a=>by rw [←fn_lo ht a,he,fn_lo hs a]
     have eh:∀ a,fn h a=fn h' a:=fun a=>by rw [←fn_hi ht a,he,fn_hi hs a]
     simp only [T.size] at hk
     rw [ih l l' (by omega) ht.2.2.2.2.1 hs.2.2.2.2.1 el,ih h h' (by omega) ht.2.2.2.2.2 hs.2.2.2.2.2 eh]
    ·exact (key v' l' h' _ (by rw [Nat.add_comm];exact hk) hs ht c (fun x=>(he x).symm)).elim
theorem Wf_size {n:Nat}:∀ {t:T},Wf n t→t.size+1≤2 ^ (n-top n t)
 | .leaf _,_=>by simp [T.size,top]
 | .node v l h,w=>by
  have a:=Wf_size w.2.2.2.2.1
  have b:=Wf_size w.2.2.2.2.2
  have p:2 ^ (n-top n l)≤2 ^ (n-v-1):=Nat.pow_le_pow_right (by omega) (by have:=w.2.1;omega)
  have q:2 ^ (n-top n h)≤2 ^ (n-v-1):=Nat.pow_le_pow_right (by omega) (by have:=w.2.2.1;omega)
  have e:2 ^ (n-v)=2 * 2 ^ (n-v-1):=by
   have:=w.1
   rw [show n-v=(n-v-1)+1 by omega,Nat.pow_succ];simp [Nat.mul_comm]
  simp only [T.size,top]
  omega
def lev (n:Nat) (ns:List Nd) (r:Int):Int:=if r<2 then n else (ns[(r-2).toNat]?.getD (0,0,0)).1
def okNd (n:Nat) (ns:List Nd) (x:Nd):Prop:=
 (0≤x.1∧x.1<n)∧((0≤x.2.1∧x.2.1<ns.length+2)∧(0≤x.2.2∧x.2.2<ns.length+2))∧x.2.1≠x.2.2∧(x.1<lev n ns x.2.1∧x.1<lev n ns x.2.2)∧x ∉ ns
def ShR (n:Nat):List Nd→Prop
 | []=>True
 | x::R=>ShR n R∧okNd n R.reverse x
def Sh (n:Nat) (ns:List Nd):Prop:=ShR n ns.reverse
theorem Sh_nil (n:Nat):Sh n []:=trivial
theorem Sh_snoc {n:Nat} {ns:List Nd} {x:Nd}:Sh n (ns++[x])↔Sh n ns∧okNd n ns x:=by
 simp [Sh,ShR]
theorem Sh_pre {n:Nat} {ns ms:List Nd}:Sh n (ns++ms)→Sh n ns:=by
 induction ms using snoc_ind with
 | h0=>intro h;simpa using h
 | h1 ms t ih=>intro h;rw [←List.append_assoc] at h;exact ih (Sh_snoc.1 h).1
theorem lev_app {n:Nat} {ns:List Nd} (ms:List Nd) {r:Int} (h:r<ns.length+2):lev n (ns++ms) r=lev n ns r:=by
 unfold lev
 split
 ·rfl
 ·rw [List.getElem?_append_left (by omega)]
theorem lev_code {n:Nat} {L:List T}:∀ {t:T},sub L t→lev n (nds L) (code L t)=top n t
 | .leaf b,_=>by unfold lev;rw [if_pos (code_leaf_lt L b)];rfl
 | .node v l h,k=>by
  unfold lev
  have:=code_node_ge L v l h
  rw [if_neg (by omega)]
  have e:(code L (.node v l h)-2).toNat=pos L (.node v l h):=by simp only [code];omega
  rw [e,nds_get k];rfl
theorem code_all {L:List T} (hc:Cl L) {r:Int} (h0:0≤r) (h1:r<L.length+2):∃ t,sub L t∧code L t=r∧(2≤r→t∈L):=by
 rcases Int.lt_or_le r 2 with h | h
 ·rcases Int.lt_or_le r 1 with k | k
  ·exact ⟨.leaf false,trivial,by simp [code];omega,fun q=>absurd q (by omega)⟩
  ·exact ⟨.leaf true,trivial,by simp [code];omega,fun q=>absurd q (by omega)⟩
 ·have hl:(r-2).toNat<L.length:=by omega
  refine ⟨L[(r-2).toNat],?_,?_,fun _=>List.getElem_mem hl⟩
  ·have m:L[(r-2).toNat]∈L:=List.getElem_mem hl
   have:=Cl_kids hc _ m
   revert this m
   cases L[(r-2).toNat] with
   | leaf _=>intro _ h;exact h.elim
   | node _ _ _=>intro m _;exact m
  ·have m:L[(
         r-2).toNat]∈L:=List.getElem_mem hl
   have hk:=Cl_kids hc _ m
   have hp:pos L L[(r-2).toNat]=(r-2).toNat:=by
    have nodup:∀ {M:List T},Cl M→∀ (i j:Nat) (x:T),M[i]? = some x→M[j]? = some x→i=j:=by
     intro M
     induction M using snoc_ind with
     | h0=>intro _ i j x h;simp at h
     | h1 M s ih=>
      intro hM i j x hi hj
      obtain ⟨c1,c2,_⟩:=Cl_snoc.1 hM
      have get:∀ i,(M++[s])[i]? = some x→(i<M.length∧M[i]? = some x)∨(i=M.length∧x=s):=by
       intro i h
       rcases Nat.lt_or_ge i M.length with q | q
       ·left;rw [List.getElem?_append_left q] at h;exact ⟨q,h⟩
       ·right
        rw [List.getElem?_append_right q] at h
        have:i-M.length=0:=by
         rcases Nat.eq_zero_or_pos (i-M.length) with z | z
         ·exact z
         ·rw [List.getElem?_eq_none (by simp;omega)] at h;cases h
        rw [this] at h
        simp at h
        exact ⟨by omega,h.symm⟩
      rcases get i hi with ⟨a,b⟩ | ⟨a,b⟩ <;> rcases get j hj with ⟨c,d⟩ | ⟨c,d⟩
      ·exact ih c1 i j x b d
      ·subst d;exact absurd (List.mem_of_getElem? b) c2
      ·subst b;exact absurd (List.mem_of_getElem? d) c2
      ·omega
    exact nodup hc _ _ _ (pos_get m) (List.getElem?_eq_getElem hl)
   revert hp hk
   cases L[(r-2).toNat] with
   | leaf _=>intro h;exact h.elim
   | node _ _ _=>intro _ hp;simp only [code,hp];omega
theorem Sh_trees {n:Nat} {ns:List Nd}:Sh n ns→∃ L,Cl L∧ns=nds L∧∀ t,t∈L→Wf n t:=by
 induction ns using snoc_ind with
 | h0=>intro _;exact ⟨[],Cl_nil,rfl,fun _ h=>by cases h⟩
 | h1 ns x ih=>
  intro h
  obtain ⟨h1,⟨hv,hv'⟩,⟨hl,hh⟩,hne,⟨kl,kh⟩,hx⟩:=Sh_snoc.1 h
  obtain ⟨L,hc,e,hw⟩:=ih h1
  subst e
  rw [nds_len] at hl hh
  obtain ⟨l,sl,el,_⟩:=code_all hc hl.1 hl.2
  obtain ⟨t,st,et,_⟩:=code_all hc hh.1 hh.2
  have wf:∀ {t:T},sub L t→Wf n t:=by
   intro t
   cases t with
   | leaf _=>intro _;trivial
   | node _ _ _=>exact fun k=>hw _ k
  rw [←el,lev_code sl] at kl
  rw [←et,lev_code st] at kh
  have hk:kids L (.node x.1.toNat l t):=⟨sl,st⟩
  have hn:nd L (.node x.1.toNat l t)=x:=by
   simp only [nd,el,et]
   rw [Int.toNat_of_nonneg hv]
  have hm:T.node x.1.toNat l t ∉ L:=fun m=>hx (by rw [←hn];exact (nds_mem hc hk).2 m)
  have hc':Cl (L++[.node x.1.toNat l t]):=Cl_snoc.2 ⟨hc,hm,hk⟩
  refine ⟨L++[.node x.1.toNat l t],hc',?_,?_⟩
  ·rw [nds_snoc hc',hn]
  ·intro s hs
   rcases List.mem_append.1 hs with q | q
   ·exact hw s q
   ·rw [List.mem_singleton.1 q]
    refine ⟨by omega,by omega,by omega,?_,wf sl,wf st⟩
    intro e
    apply hne
    rw [←el,←et,e]
theorem trees_Sh {n:Nat} {L:List T}:Cl L→(∀ t,t∈L→Wf n t)→Sh n (nds L):=by
 induction L using snoc_ind with
 | h0=>intro _ _;exact Sh_nil n
 | h1 L t ih=>
  intro hc hw
  obtain ⟨c1,c2,c3⟩:=Cl_snoc.1 hc
  rw [nds_snoc hc]
  refine Sh_snoc.2 ⟨ih c1 (fun s hs=>hw s (List.mem_append_left _ hs)),?_⟩
  have w:=hw t (by simp)
  have hx:nd L t ∉ nds L:=fun m=>c2 ((nds_mem c1 c3).1 m)
  revert w c3 hx
  cases t with
  | leaf _=>intro h;exact h.elim
  | node v l h=>
   intro c3 w hx
   have a:=code_lt c3.1
   have b:=code_lt c3.2
   have a0:=code_nonneg L l
   have b0:=code_nonneg L h
   refine ⟨⟨?_,?_⟩,⟨⟨?_,?_⟩,⟨?_,?_⟩⟩,?_,⟨?_,?_⟩,hx⟩
   ·simp only [nd];omega
   ·have:=w.1;simp only [nd];omega
   ·exact a0
   ·rw [nds_len];exact a
   ·exact b0
   ·rw [nds_len];exact b
   ·exact fun e=>w.2.2.2.1 (code_inj c3.1 c3.2 e)
   ·show (v:Int)<lev n (nds L) (code L l)
    rw [lev_code c3.1];have:=w.2.1;omega
   ·show (v:Int)<lev n (nds L) (code L h)
    rw [lev_code c3.2];have:=w.2.2.1;omega
theorem nds_inj {L:List T}:∀ {L':List T},Cl L→Cl L'→nds L=nds L'→L=L':=by
 induction L using snoc_ind with
 | h0=>
  intro L' _ _ e
  have:=congrArg List.length e
  rw [nds_len,nds_len] at this
  exact (List.length_eq_zero_iff.1 this.symm).symm
 | h1 L t ih=>
  intro L'
  induction L' using snoc_ind with
  | h0=>
   intro _ _ e
   have:=congrArg List.length e
   rw [nds_len,nds_len] at this
   simp at this
  | h1 L' t' _=>
   intro h h' e
   rw [nds_snoc h,nds_snoc h'] at e
   obtain ⟨e1,e2⟩:=List.append_inj' e rfl
   obtain ⟨a,_,a3⟩:=Cl_snoc.1 h
   obtain ⟨b,_,b3⟩:=Cl_snoc.1 h'
   have:=ih a b e1
   subst this
   simp only [List.cons.injEq,and_true] at e2
   rw [nd_inj a3 b3 e2]
def Cano (ns:List Nd) (root:Int) (t:T):Prop:=ns=nds (post t [])∧root=code (post t []) t
theorem Cano_iff {L:List T} (hc:Cl L) {t:T} (ht:sub L t):(∃ t',Cano (nds L) (code L t) t')↔post t []=L:=by
 constructor
 ·rintro ⟨t',e1,e2⟩
  obtain ⟨N,e,c,s,_⟩:=post_spec t' [] Cl_nil
  rw [List.nil_append] at e c s
  rw [e] at e1 e2
  have:=nds_inj hc c e1
  subst this
  rw [←code_inj ht s e2] at e
  exact e
 ·intro e
  exact ⟨t,by rw [Cano,e];exact ⟨rfl,rfl⟩⟩
theorem code_get {L:List T} (hc:Cl L) {k:Nat} {y:T} (h:L[k]? = some y):code L y=k+2:=by
 have hk:k<L.length:=by
  rcases Nat.lt_or_ge k L.length with q | q
  ·exact q
  ·rw [List.getElem?_eq_none q] at h;cases h
 obtain ⟨t,ht,e,hm⟩:=code_all hc (r:=k+2) (by omega) (by omega)
 have m:=hm (by omega)
 have g:=pos_get m
 have:pos L t=k:=by
  have:=Cl_kids hc t m
  revert this e
  cases t with
  | leaf _=>exact fun _ h=>h.elim
  | node _ _ _=>intro e _;simp only [code] at e;omega
 rw [this,h] at g
 injection g with g
 rw [g];exact e
end Go.Proofs.YtjlmeikcfdanmaaGreatDoor.BT

namespace Go.Proofs.YtjlmeikcfdanmaaGreatDoor.DE.V
open Go BT
theorem v92 (r:Row):isoCall (call dp) 92 [.agg (eRow r)]=some (.b (rowOk r)):=by
 apply i92 _ _ rfl rfl
 simp [s92]
 repeat' split
 all_goals (simp_all [rowOk] <;> omega)
theorem v51 (r:Row):isoCall (call dp) 51 [.agg (eRow r)]=some (.b (rowOk r)):=by
 apply i51 _ _ rfl rfl
 simp [s51]
 repeat' split
 all_goals (simp_all [rowOk] <;> omega)
theorem v12 (nl:Bool) (l:List Row):isoCall (call dp) 12 [eRows nl l]=some (.b (decide (l.length≤7))):=by
 apply i12 _ _ (by simp [noRefL]) rfl
 simp [s12]
 split <;> omega
theorem v77 (nl nl':Bool) (ord:List Row) (ns:List Nd) (root r:Int) (h0:in64 r) (h:r<ns.length+2):isoCall (call dp) 77 [eB nl nl' ord ns root,.i .i64 r]=some (.i .i64 (lev ord.length ns r)):=by
 apply i77 _ _ _ (by simp [noRefL,noRef]) rfl
 simp [s77]
 split
 ·simp [lev, *]
 ·obtain ⟨x,hx⟩:∃ x,ns[(r-2).toNat]? = some x:=⟨_,List.getElem?_eq_getElem (by omega)⟩
  rw [wrap64 (n:=r-2) ⟨by have:=h0.1;have:=h0.2;omega,by have:=h0.2;omega⟩,iaD_nds' _ (by omega) hx]
  simp [lev, *]
theorem take_next {α:Type} {l m:List α} {k:Nat} {x:α} (h:l.take k=m.take k) (hl:l[k]? = some x) (hm:m[k]? = some x):l.take (k+1)=m.take (k+1):=by
 rw [List.take_add_one,List.take_add_one,h,hl,hm]
theorem take_full {α:Type} {l m:List α} {k:Nat} (h:l.take k=m.take k) (hl:l.length≤k) (hm:m.length≤k):l=m:=by
 rwa [List.take_of_length_le hl,List.take_of_length_le hm] at h
abbrev Bd (n:Nat):Prop:=n<4611686018427387904
theorem Bd.lt {n m:Nat} (h:Bd n) (k:m≤n):Bd m:=Nat.lt_of_le_of_lt k h
theorem wrapS {k:Nat} (h:Bd k):IntKind.wrap .i64 ((k:Int)+1)=((k+1:Nat):Int):=by
 rw [wrap64 ⟨by omega,by unfold Bd at h;omega⟩];omega
theorem v74 (nl nl':Bool) (l m:List Row) (hb:Bd m.length):isoCall (call dp) 74 [eRows nl l,eRows nl' m]=some (.b (decide (l=m))):=by
 apply i74 _ _ _ (by simp [noRefL]) rfl
 simp [s74]
 by_cases hl:l.length=m.length
 ·simp only [hl,if_true]
  let J:Nat→List D→Store→Prop:=fun q fr S=>∃ k a4 a14,k+q=m.length∧l.take k=m.take k∧S=[]∧fr=mkf 26 [(0,eRows nl l),(1,eRows nl' m),(4,a4),(12,.i .i64 m.length),(13,.i .i64 k),(14,a14)]
  refine W_loop J ?_ m.length _ _ ⟨0,_,_,by simp,by simp,rfl,rfl⟩
  rintro q fr S ⟨k,a4,a14,hk,he,rfl,rfl⟩
  rw [←wp_W,e74_0]
  simp [s74_0]
  split
  ·rename_i h
   obtain ⟨x,hx⟩:∃ x,l[k]? = some x:=⟨_,List.getElem?_eq_getElem (by omega)⟩
   obtain ⟨y,hy⟩:∃ x,m[k]? = some x:=⟨_,List.getElem?_eq_getElem (by omega)⟩
   simp [iaD_rows _ hx,iaD_rows _ hy]
   by_cases hxy:x=y
   ·subst hxy
    simp [wrapS (hb.lt (Nat.le_of_lt h))]
    exact ⟨q-1,by omega,k+1,_,_,by omega,take_next he hx hy,rfl,rfl⟩
   ·simp [hxy]
    exact fun e=>hxy (by rw [e,hy] at hx;injection hx with hx;exact hx.symm)
  ·simp [e74_r0,s74_r0]
   exact take_full he (by omega) (by omega)
 ·rw [if_neg (by omega)]
  exact fun h=>hl (by rw [h])
theorem v73 (nl nl':Bool) (l m:List Nd) (hb:Bd m.length):isoCall (call dp) 73 [eNds nl l,eNds nl' m]=some (.b (decide (l=m))):=by
 apply i73 _ _ _ (by simp [noRefL]) rfl
 simp [s73]
 by_cases hl:l.length=m.length
 ·simp only [hl,if_true]
  let J:Nat→List D→Store→Prop:=fun q fr S=>∃ k a4 a14,k+q=m.length∧l.take k=m.take k∧S=[]∧fr=mkf 26 [(0,eNds nl l),(1,eNds nl' m),(4,a4),(12,.i .i64 m.length),(13,.i .i64 k),(14,a14)]
  refine W_loop J ?_ m.length _ _ ⟨0,_,_,by simp,by simp,rfl,rfl⟩
  rintro q fr S ⟨k,a4,a14,hk,he,rfl,rfl⟩
  rw [←wp_W,e73_0]
  simp [s73_0]
  split
  ·rename_i h
   obtain ⟨x,hx⟩:∃ x,l[k]? = some x:=⟨_,List.getElem?_eq_getElem (by omega)⟩
   obtain ⟨y,hy⟩:∃ x,m[k]? = some x:=⟨_,List.getElem?_eq_getElem (by omega)⟩
   simp [iaD_nds _ hx,iaD_nds _ hy]
   by_cases hxy:x=y
   ·subst hxy
    simp [wrapS (hb.lt (Nat.le_of_lt h))]
    exact ⟨q-1,by omega,k+1,_,_,by omega,take_next he hx hy,rfl,rfl⟩
   ·simp [hxy]
    exact fun e=>hxy (by rw [e,hy] at hx;injection hx with hx;exact hx.symm)
  ·simp [e73_r0,s73_r0]
   exact take_full he (by omega) (by omega)
 ·rw [if_neg (by omega)]
  exact fun h=>hl (by rw [h])
theorem v52 (nl nl':Bool) (l m:List Row) (hb:Bd m.length):isoCall (call dp) 52 [eRows nl l,eRows nl' m]=some (.b (decide (l=m))):=by
 apply i52 _ _ _ (by simp [noRefL]) rfl
 simp [s52]
 by_cases hl:l.length=m.length
 ·simp only [hl,if_true]
  let J:Nat→List D→Store→Prop:=fun q fr S=>∃ k a4 a14,k+q=m.length∧l.take k=m.take k∧S=[]∧fr=mkf 26 [(0,eRows nl l),(1,eRows nl' m),(4,a4),(5,.i .i64 k),(14,a14)]
  refine W_loop J ?_ m.length _ _ ⟨0,_,_,by simp,by simp,rfl,rfl⟩
  rintro q fr S ⟨k,a4,a14,hk,he,rfl,rfl⟩
  rw [←wp_W,e52_0]
  simp [s52_0,hl]
  split
  ·rename_i h
   obtain ⟨x,hx⟩:∃ x,l[k]? = some x:=⟨_,List.getElem?_eq_getElem (by omega)⟩
   obtain ⟨y,hy⟩:∃ x,m[k]? = some x:=⟨_,List.getElem?_eq_getElem (by omega)⟩
   simp [iaD_rows _ hx,iaD_rows _ hy]
   by_cases hxy:x=y
   ·subst hxy
    simp [wrapS (hb.lt (Nat.le_of_lt h))]
    exact ⟨q-1,by omega,k+1,_,_,by omega,take_next he hx hy,rfl,rfl⟩
   ·simp [hxy]
    exact fun e=>hxy (by rw [e,hy] at hx;injection hx with hx;exact hx.symm)
  ·simp [e52_r0,s52_r0]
   exact take_full he (by omega) (by omega)
 ·rw [if_neg (by omega)]
  exact fun h=>hl (by rw [h])
theorem v17 (n1 n1' n2 n2':Bool) (o1 o2:List Row) (l m:List Nd) (r1 r2:Int) (hb:Bd m.length) (hb':Bd o2.length) :
  isoCall (call dp) 17 [eB n1 n1' o1 l r1,eB n2 n2' o2 m r2]=some (.b (decide (o1=o2∧l=m∧r1=r2))):=by
 apply i17 _ _ _ (by simp [noRefL]) rfl
 simp [s17,v52 _ _ _ _ hb']
 by_cases hr:r1=r2
 ·simp only [hr,if_true]
  by_cases ho:o1=o2
  ·simp only [ho,if_true]
   by_cases hl:l.length=m.length
   ·simp only [hl,if_true]
    let J:Nat→List D→Store→Prop:=fun q fr S=>∃ k a4 a14,k+q=m.length∧l.take k=m.take k∧sget S 0=some (.box [eRows n1 o2,eNds n1' l,.i .i64 r2])∧sget S 1=some (.box [eRows n2 o2,eNds n2' m,.i .i64 r2])∧fr=mkf 46 [(2,.bx 0 0),(3,.bx 1 0),(4,a4),(5,.i .i64 k),(32,a14)]
    refine W_loop J ?_ m.length _ _ ⟨0,_,_,by simp,by simp,rfl,rfl,rfl⟩
    rintro q fr S ⟨k,a4,a14,hk,he,hS0,hS1,rfl⟩
    rw [←wp_W,e17_0]
    simp [s17_0,hl,hS0,hS1]
    split
    ·rename_i h
     obtain ⟨x,hx⟩:∃ x,l[k]? = some x:=⟨_,List.getElem?_eq_getElem (by omega)⟩
     obtain ⟨y,hy⟩:∃ x,m[k]? = some x:=⟨_,List.getElem?_eq_getElem (by omega)⟩
     simp [iaD_nds _ hx,iaD_nds _ hy,hS0,hS1]
     by_cases hxy:x=y
     ·subst hxy
      simp [wrapS (hb.lt (Nat.le_of_lt h))]
      exact ⟨q-1,by omega,k+1,_,_,by omega,take_next he hx hy,hS0,hS1,rfl⟩
     ·simp [hxy]
      exact fun e=>hxy (by rw [e,hy] at hx;injection hx with hx;exact hx.symm)
    ·simp [e17_r0,s17_r0]
     exact take_full he (by omega) (by omega)
   ·rw [if_neg (by omega)]
    simp
    exact fun h=>hl (by rw [h])
  ·simp [ho]
 ·simp [hr]
theorem v49 (nl:Bool) (l:List Row) (h:nl=true→l=[]) (hb:l.length≤maxLenD):isoCall (call dp) 49 [eRows nl l]=some (eRows nl l):=by
 apply i49 _ _ (by simp [noRefL]) (by simp)
 simp [s49]
 split
 ·rename_i hn
  subst hn
  rw [h rfl];rfl
 ·rename_i hn
  have hn:nl=false:=by simpa using hn
  subst hn
  have h1:(l.map eRow).length≤maxLenD:=by simpa using hb
  simp only [eRows,cellsV_nil,OX_some,bslO_nil,app_cap0 _ h1]
  split
  ·rename_i e;rw [e];rfl
  ·rfl
def OrdOk (l:List Row):Prop:=(∀ r,r∈l→rowOk r=true)∧l.Nodup
open Classical in
theorem v48 (nl:Bool) (l:List Row) (hb:Bd l.length):isoCall (call dp) 48 [eRows nl l]=some (.b (decide (OrdOk l∧l.length≤4096))):=by
 apply i48 _ _ (by simp [noRefL]) rfl
 simp [s48]
 let J:Nat→List D→Store→Prop:=fun q fr S=>∃ k a2 a10,k+q=l.length∧OrdOk (l.take k)∧sget S 0=some (.map (eMap (fun r:Row=>.agg (eRow r)) D.b ((l.take k).map fun r=>(r,true))))∧fr=mkf 27 [(0,eRows nl l),(2,a2),(3,.mp 0),(7,eRows nl l),(8,.i .i64 l.length),(9,.i .i64 k),(10,a10)]
 refine W_loop J ?_ l.length _ _ ⟨0,_,_,by simp,by simp [OrdOk],rfl,rfl⟩
 rintro q fr S ⟨k,a2,a10,hk,ho,hS,rfl⟩
 rw [←wp_W,e48_0]
 have hlt:=sget_lt hS
 have hne:S≠[]:=by intro e;simp [e] at hlt
 simp [s48_0]
 split
 ·rename_i h
  obtain ⟨x,hx⟩:∃ x,l[k]? = some x:=⟨_,List.getElem?_eq_getElem (by omega)⟩
  simp [iaD_rows _ hx,v92,hne,hS]
  have hS':sget (Ent.box (eRow x)::S) 0=_:=sget_push hS
  have hin:x∈l.take k∨assoc x ((l.take k).map fun r=>(r,true))=none:=by
   by_cases hm:x∈l.take k
   ·exact .inl hm
   ·right
    rw [assoc_none]
    intro p hp e
    obtain ⟨y,hy,rfl⟩:=List.mem_map.1 hp
    exact hm (e ▸ hy)
  have ht:l.take (k+1)=l.take k++[x]:=by rw [List.take_add_one,hx];rfl
  have hin':¬OrdOk (l.take (k+1))→¬OrdOk l:=by
   intro h1 h2
   exact h1 ⟨fun r hr=>h2.1 r (List.mem_of_mem_take hr),h2.2.sublist (List.take_sublist _ _)⟩
  split
  ·rename_i hr
   rcases hin with hm | ha
   ·have hx':assoc x ((l.take k).map fun r=>(r,true))=some true:=by
     cases ha:assoc x ((l.take k).map fun r=>(r,true)) with
     | none=>exact absurd rfl (assoc_none.1 ha (x,true) (List.mem_map.2 ⟨x,hm,rfl⟩))
     | some b=>
      have:∀ (m:List Row) b,assoc x (m.map fun r=>(r,true))=some b→b=true:=by
       intro m
       induction m with
       | nil=>intro b h;cases h
       | cons y m ih=>
        intro b h
        simp only [List.map_cons,assoc] at h
        split at h
        ·injection h with h;exact h.symm
        ·exact ih b h
      rw [this _ b ha]
    rw [lkD'_mp keyE_row (a:=x) (isKey_row x) hS',hx']
    simp
    intro ho'
    refine absurd ho' (hin' ?_)
    rw [ht]
    intro h1
    have:=h1.2
    rw [List.nodup_append] at this
    exact this.2.2 x hm x (by simp) rfl
   ·rw [lkD'_mp keyE_row (a:=x) (isKey_row x) hS',ha]
    simp
    rw [muD'_new keyE_row (a:=x) (b:=true) (isKey_row x) hS' ha]
    simp only [OX_some,bin_add,wrapS (hb.lt (Nat.le_of_lt h)),Qseq_normal]
    have hnm:x ∉ l.take k:=fun hm=>(assoc_none.1 ha (x,true) (List.mem_map.2 ⟨x,hm,rfl⟩)) rfl
    refine ⟨q-1,by omega,k+1,_,_,by omega,?_,?_,rfl⟩
    ·rw [ht]
     refine ⟨?_,?_⟩
     ·intro r hr'
      rcases List.mem_append.1 hr' with hr' | hr'
      ·exact ho.1 r hr'
      ·rw [List.mem_singleton.1 hr'];exact hr
     ·rw [List.nodup_append]
      refine ⟨ho.2,by simp,?_⟩
      intro a ha' b hb' e
      rw [List.mem_singleton.1 hb'] at e
      exact hnm (e ▸ ha')
    ·rw [ht,List.map_append]
     exact sget_sset _ (by simp)
  ·rename_i hr
   intro ho'
   exact absurd (ho'.1 x (List.mem_of_getElem? hx)) hr
 ·have:l.take k=l:=List.take_of_length_le (by omega)
  rw [this] at ho
  simp [e48_r0,s48_r0,ho]
  split <;> omega
theorem nodup_snoc {α:Type} {l:List α} {x:α}:(l++[x]).Nodup↔l.Nodup∧x ∉ l:=by
 rw [List.nodup_append]
 constructor
 ·exact fun h=>⟨h.1,fun k=>h.2.2 x k x (by simp) rfl⟩
 ·exact fun h=>⟨h.1,by simp,fun a ha b hb e=>h.2 (by rw [List.mem_singleton.1 hb] at e;exact e ▸ ha)⟩
theorem OrdOk_snoc {l:List Row} {x:Row}:OrdOk (l++[x])↔OrdOk l∧rowOk x=true∧x ∉ l:=by
 simp only [OrdOk,nodup_snoc,List.mem_append,List.mem_singleton]
 constructor
 ·exact fun h=>⟨⟨fun r hr=>h.1 r (.inl hr),h.2.1⟩,h.1 x (.inr rfl),h.2.2⟩
 ·exact fun h=>⟨fun r hr=>hr.elim (h.1.1 r) (fun e=>e ▸ h.2.1),h.1.2,h.2.2⟩
theorem OrdOk_take {l:List Row} (k:Nat) (h:OrdOk l):OrdOk (l.take k):=
 ⟨fun r hr=>h.1 r (List.mem_of_mem_take hr),h.2.sublist (List.take_sublist _ _)⟩
theorem take_snoc {α:Type} {l:List α} {k:Nat} {x:α} (hx:l[k]? = some x):l.take (k+1)=l.take k++[x]:=by rw [List.take_add_one,hx];rfl
open Classical in
theorem v16 (nl:Bool) (l:List Row) (hb:Bd l.length):isoCall (call dp) 16 [eRows nl l]=some (.b (decide (OrdOk l∧l.length≤4096))):=by
 apply i16 _ _ (by simp [noRefL]) rfl
 simp [s16]
 let J:Nat→List D→Store→Prop:=fun q fr S=>∃ k a2 a4 a8 a19,k+q=l.length∧OrdOk (l.take k)∧fr=mkf 34 [(0,eRows nl l),(2,a2),(3,.i .i64 k),(4,a4),(8,a8),(19,a19)]
 refine W_loop J ?_ l.length _ _ ⟨0,_,_,_,_,by simp,by simp [OrdOk],rfl⟩
 rintro q fr S ⟨k,a2,a4,a8,a19,hk,ho,rfl⟩
 rw [←wp_W,e16_1]
 simp [s16_1]
 split
 ·rename_i h
  obtain ⟨x,hx⟩:∃ x,l[k]? = some x:=⟨_,List.getElem?_eq_getElem (by omega)⟩
  have ht:=take_snoc hx
  simp [iaD_rows _ hx,v51]
  split
  ·rename_i hr
   let J2:Nat→List D→Store→Prop:=fun q fr S=>∃ j a2 a19,j+q=k∧x ∉ l.take j∧fr=mkf 34 [(0,eRows nl l),(2,a2),(3,.i .i64 k),(4,.i .i64 j),(8,.top),(19,a19)]
   refine W_loop J2 ?_ k _ _ ⟨0,_,_,by simp,by simp,rfl⟩
   rintro q' fr S ⟨j,a2,a19,hj,hn,rfl⟩
   rw [←wp_W,e16_0]
   simp [s16_0]
   split
   ·rename_i hjk
    obtain ⟨y,hy⟩:∃ x,l[j]? = some x:=⟨_,List.getElem?_eq_getElem (by omega)⟩
    simp [iaD_rows _ hx,iaD_rows _ hy]
    split
    ·rename_i e
     intro ho'
     have:=OrdOk_take (k+1) ho'
     rw [ht,OrdOk_snoc] at this
     refine absurd ?_ this.2.2
     have hy':(l.take k)[j]? = some y:=by rw [List.getElem?_take,if_pos hjk];exact hy
     exact e ▸ List.mem_of_getElem? hy'
    ·rename_i e
     simp [wrapS (hb.lt (show j≤l.length by omega))]
     refine ⟨q'-1,by omega,j+1,_,_,by omega,?_,rfl⟩
     rw [take_snoc hy]
     simp [hn]
     exact fun h=>e h.symm
   ·simp [e16_r0,s16_r0,wrapS (hb.lt (Nat.le_of_lt h))]
    refine ⟨q-1,by omega,k+1,_,_,_,_,by omega,?_,rfl⟩
    have:j=k:=by omega
    subst this
    rw [ht,OrdOk_snoc]
    exact ⟨ho,hr,hn⟩
  ·rename_i hr
   intro ho'
   exact absurd (ho'.1 x (List.mem_of_getElem? hx)) hr
 ·have:l.take k=l:=List.take_of_length_le (by omega)
  rw [this] at ho
  simp [e16_r1,s16_r1,ho]
  split <;> omega
end Go.Proofs.YtjlmeikcfdanmaaGreatDoor.DE.V

namespace Go.Proofs.YtjlmeikcfdanmaaGreatDoor.DE
open Go
variable (cf:CallF) (a0 a1 a2 a3 a4 a5 a6 a7 a8 a9 a10 a11 a12 a13 a14:D) (S:Store) (Q:QT) (Post:PT)
def s100 (cf:CallF) (a0:D) (S:Store) (Post:PT):Prop:=
 bxx 10 true a0 S fun x1 S2=>OX (faD 0 x1) fun x3=>OX (ldD S2 1 false x3) fun x4=>OX (binD .neq .num x4 (.i .i64 4)) fun x5=>OX (gsel x5 true (faD 4 x1)) fun x6=>OX (gsel x5 true (ldD S2 1 false x6)) fun x7=>OX (gsel x5 true (binD .neq .num x7 (.i .i64 0))) fun x8=>OX (gsel x5 true (some x8)) fun x9=>OX (gsel x9 false (faD 5 x1)) fun x10=>OX (gsel x9 false (ldD S2 1 false x10)) fun x11=>OX (gsel x9 false (lenD false x11)) fun x12=>OX (gsel x9 false (binD .neq .num x12 (.i .i64 0))) fun x13=>OX (gsel x5 true (pickD x9 (.b true) x13)) fun x14=>OX (gsel x5 true (some x14)) fun x15=>OX (gsel x15 false (faD 6 x1)) fun x16=>OX (gsel x15 false (ldD S2 1 false x16)) fun x17=>OX (gsel x15 false (binD .neq .num x17 (.i .i64 0))) fun x18=>OX (gsel x5 true (pickD x15 (.b true) x18)) fun x19=>OX (gsel x5 true (some x19)) fun x20=>OX (gsel x20 false (faD 7 x1)) fun x21=>OX (gsel x20 false (ldD S2 3 true x21)) fun x22=>OX (gsel x20 false ((bldV [.i .i64 0,.i .i64 0,.s []] []).map .agg)) fun x23=>OX (gsel x20 false (binD .neq (.agg [.i,.i,.s]) x22 x23)) fun x24=>OX (gsel x5 true (pickD x20 (.b true) x24)) fun x25=>OX (pickD x5 x25 (.b false)) fun x26=>OX (gsel x26 false (faD 0 x1)) fun x27=>OX (gsel x26 false (ldD S2 1 false x27)) fun x28=>OX (gsel x26 false (binD .neq .num x28 (.i .i64 0))) fun x29=>OX (gsel x26 false (some x29)) fun x30=>OX (gsel x30 true (faD 1 x1)) fun x31=>OX (gsel x30 true (ldD S2 2 true x31)) fun x32=>OX (gsel x30 true ((bldV [.i .i64 0,.i .i64 0] []).map .agg)) fun x33=>OX (gsel x30 true (binD .neq (.agg [.i,.i]) x32 x33)) fun x34=>OX (gsel x26 false (pickD x30 x34 (.b false))) fun x35=>OX (pickD x26 (.b true) x35) fun x36=>OX (gsel x36 false (faD 3 x1)) fun x37=>OX (gsel x36 false (ldD S2 1 false x37)) fun x38=>OX (gsel x36 false (isoCall cf 101 [x38,(.fn 150 [])])) fun x39=>OX (pickD x36 (.b true) x39) fun x40=>WB x40
 (Post (.b false) S2)
 (OX (faD 0 x1) fun x41=>OX (ldD S2 1 false x41) fun x42=>OX (binD .eql .num x42 (.i .i64 0)) fun x43=>WB x43
 (OX (faD 1 x1) fun x44=>OX (ldD S2 2 true x44) fun x45=>OX (isoCall cf 92 [x45]) fun x46=>OX (gsel x46 true (faD 3 x1)) fun x47=>OX (gsel x46 true (ldD S2 1 false x47)) fun x48=>OX (gsel x46 true (lenD false x48)) fun x49=>OX (gsel x46 true (binD .eql .num x49 (.i .i64 0))) fun x50=>OX (pickD x46 x50 (.b false)) fun x51=>Post x51 S2)
 (OX (binD .eql .num x42 (.i .i64 1)) fun x52=>WB x52
 (OX (faD 3 x1) fun x53=>OX (ldD S2 1 false x53) fun x54=>OX (lenD false x54) fun x55=>OX (binD .eql .num x55 (.i .i64 2)) fun x56=>OX (gsel x56 true (faD 3 x1)) fun x57=>OX (gsel x56 true (ldD S2 1 false x57)) fun x58=>OX (gsel x56 true (iaD 1 x58 (.i .i64 0))) fun x59=>OX (gsel x56 true (ldD S2 1 false x59)) fun x60=>OX (gsel x56 true (faD 3 x1)) fun x61=>OX (gsel x56 true (ldD S2 1 false x61)) fun x62=>OX (gsel x56 true (iaD 1 x62 (.i .i64 1))) fun x63=>OX (gsel x56 true (ldD S2 1 false x63)) fun x64=>OX (gsel x56 true (isoCall cf 151 [x60,x64])) fun x65=>OX (gsel x56 true (unD .not x65)) fun x66=>OX (pickD x56 x66 (.b false)) fun x67=>Post x67 S2)
 (OX (binD .eql .num x42 (.i .i64 2)) fun x68=>WB x68
 (OX (faD 3 x1) fun x69=>OX (ldD S2 1 false x69) fun x70=>OX (lenD false x70) fun x71=>OX (binD .eql .num x71 (.i .i64 1)) fun x72=>OX (gsel x72 true (faD 3 x1)) fun x73=>OX (gsel x72 true (ldD S2 1 false x73)) fun x74=>OX (gsel x72 true (iaD 1 x74 (.i .i64 0))) fun x75=>OX (gsel x72 true (ldD S2 1 false x75)) fun x76=>OX (gsel x72 true (isoCall cf 152 [x76])) fun x77=>OX (gsel x72 true (unD .not x77)) fun x78=>OX (pickD x72 x78 (.b false)) fun x79=>OX (gsel x79 true (faD 3 x1)) fun x80=>OX (gsel x79 true (ldD S2 1 false x80)) fun x81=>OX (gsel x79 true (iaD 1 x81 (.i .i64 0))) fun x82=>OX (gsel x79 true (ldD S2 1 false x82)) fun x83=>OX (gsel x79 true (isoCall cf 153 [x83])) fun x84=>OX (gsel x79 true (unD .not x84)) fun x85=>OX (pickD x79 x85 (.b false)) fun x86=>Post x86 S2)
 (OX (binD .eql .num x42 (.i .i64 3)) fun x87=>WB x87
 (OX (faD 3 x1) fun x88=>OX (ldD S2 1 false x88) fun x89=>OX (lenD false x89) fun x90=>OX (binD .eql .num x90 (.i .i64 1)) fun x91=>OX (gsel x91 true (faD 3 x1)) fun x92=>OX (gsel x91 true (ldD S2 1 false x92)) fun x93=>OX (gsel x91 true (iaD 1 x93 (.i .i64 0))) fun x94=>OX (gsel x91 true (ldD S2 1 false x94)) fun x95=>OX (gsel x91 true (isoCall cf 154 [x95])) fun x96=>OX (gsel x91 true (unD .not x96)) fun x97=>OX (pickD x91 x97 (.b false)) fun x98=>Post x98 S2)
 (OX (binD .eql .num x42 (.i .i64 4)) fun x99=>WB x99
 (OX (faD 5 x1) fun x100=>OX (ldD S2 1 false x100) fun x101=>OX (isoCall cf 155 [x101,(.fn 156 [])]) fun x102=>OX (faD 3 x1) fun x103=>OX (ldD S2 1 false x103) fun x104=>OX (lenD false x104) fun x105=>OX (binD .eql .num x105 (.i .i64 0)) fun x106=>OX (gsel x106 true (faD 5 x1)) fun x107=>OX (gsel x106 true (ldD S2 1 false x107)) fun x108=>OX (gsel x106 true (lenD false x108)) fun x109=>OX (gsel x106 true (binD .gtr .num x109 (.i .i64 0))) fun x110=>OX (pickD x106 x110 (.b false)) fun x111=>OX (gsel x111 true (some x102)) fun x112=>OX (gsel x111 true (unD .not x112)) fun x113=>OX (pickD x111 x113 (.b false)) fun x114=>OX (gsel x114 true (faD 5 x1)) fun x115=>OX (gsel x114 true (ldD S2 1 false x115)) fun x116=>OX (gsel x114 true (isoCall cf 157 [x116,(.fn 148 [])])) fun x117=>OX (pickD x114 x117 (.b false)) fun x118=>OX (gsel x118 true (faD 4 x1)) fun x119=>OX (gsel x118 true (ldD S2 1 false x119)) fun x120=>OX (gsel x118 true (faD 5 x1)) fun x121=>OX (gsel x118 true (ldD S2 1 false x121)) fun x122=>OX (gsel x118 true (faD 6 x1)) fun x123=>OX (gsel x118 true (ldD S2 1 false x123)) fun x124=>OX (gsel x118 true (faD 7 x1)) fun x125=>OX (gsel x118 true (ldD S2 3 true x125)) fun x126=>OX (gsel x118 true (isoCall cf 158 [x120,x122,x124,x126])) fun x127=>OX (pickD x118 x127 (.b false)) fun x128=>Post x128 S2)
 (Post (.b false) S2))))))
theorem e100:wp cf c100 (frame0 d100 [a0]) S (FinK d100.res Post)=s100 cf a0 S Post:=wpS_of (by kernel_rfl)
theorem i100 (a0:D) (r:D) (ha:noRefL (stripL [a0])=true) (hr:noRef r=true) (h:s100 (call dp) (strip a0) [] fun d _=>stripT d=r):isoCall (call dp) 100 [a0]=some r:=iso_s (f:=d100) rfl ⟨rfl,by decide⟩ ha hr (by rw [←e100] at h;exact h)
def s150 (cf:CallF) (a0:D) (S:Store) (Post:PT):Prop:=
 OX (isoCall cf 60 [a0]) fun x1=>OX (unD .not x1) fun x2=>OX (gsel x2 false (some a0)) fun x3=>OX (gsel x2 false (lenD false x3)) fun x4=>OX (gsel x2 false (binD .eql .num x4 (.i .i64 0))) fun x5=>OX (pickD x2 (.b true) x5) fun x6=>Post x6 S
theorem e150:wp cf c150 (frame0 d150 [a0]) S (FinK d150.res Post)=s150 cf a0 S Post:=wpS_of (by kernel_rfl)
theorem i150 (a0:D) (r:D) (ha:noRefL (stripL [a0])=true) (hr:noRef r=true) (h:s150 (call dp) (strip a0) [] fun d _=>stripT d=r):isoCall (call dp) 150 [a0]=some r:=iso_s (f:=d150) rfl ⟨rfl,by decide⟩ ha hr (by rw [←e150] at h;exact h)
def s156 (cf:CallF) (a0:D) (S:Store) (Post:PT):Prop:=
 bxx 4 true a0 S fun x1 S2=>OX (faD 3 x1) fun x3=>OX (ldD S2 1 false x3) fun x4=>OX (isoCall cf 60 [x4]) fun x5=>OX (unD .not x5) fun x6=>OX (gsel x6 false (faD 3 x1)) fun x7=>OX (gsel x6 false (ldD S2 1 false x7)) fun x8=>OX (gsel x6 false (lenD false x8)) fun x9=>OX (gsel x6 false (binD .eql .num x9 (.i .i64 0))) fun x10=>OX (pickD x6 (.b true) x10) fun x11=>Post x11 S2
theorem e156:wp cf c156 (frame0 d156 [a0]) S (FinK d156.res Post)=s156 cf a0 S Post:=wpS_of (by kernel_rfl)
theorem i156 (a0:D) (r:D) (ha:noRefL (stripL [a0])=true) (hr:noRef r=true) (h:s156 (call dp) (strip a0) [] fun d _=>stripT d=r):isoCall (call dp) 156 [a0]=some r:=iso_s (f:=d156) rfl ⟨rfl,by decide⟩ ha hr (by rw [←e156] at h;exact h)
def s101 (cf:CallF) (a0 a1:D) (S:Store) (Post:PT):Prop:=
 OX (isoCall cf 159 [a0,a1]) fun x1=>OX (binD .geq .num x1 (.i .i64 0)) fun x2=>Post x2 S
theorem e101:wp cf c101 (frame0 d101 [a0,a1]) S (FinK d101.res Post)=s101 cf a0 a1 S Post:=wpS_of (by kernel_rfl)
theorem i101 (a0 a1:D) (r:D) (ha:noRefL (stripL [a0,a1])=true) (hr:noRef r=true) (h:s101 (call dp) (strip a0) (strip a1) [] fun d _=>stripT d=r):isoCall (call dp) 101 [a0,a1]=some r:=iso_s (f:=d101) rfl ⟨rfl,by decide⟩ ha hr (by rw [←e101] at h;exact h)
def s159_r0 (cf:CallF) (a0 a1 a4 a7 a8 a9:D) (S:Store) (Q:QT):Prop:=
 Q .ret (mkf 19 [(0,.top),(1,.top),(4,(.i .i64 (-1))),(7,.top),(8,.top),(9,.top)]) S
theorem e159_r0:wp cf c159_r0 (mkf 19 [(0,a0),(1,a1),(4,a4),(7,a7),(8,a8),(9,a9)]) S Q=s159_r0 cf a0 a1 a4 a7 a8 a9 S Q:=wpS_of (by kernel_rfl)
def s159_0 (cf:CallF) (a0 a1 a4 a7 a8 a9:D) (S:Store) (Q:QT):Prop:=
 OX (binD .lss .num a8 a7) fun x1=>WB x1
 (OX (iaD 1 a0 a8) fun x2=>OX (ldD S 1 false x2) fun x3=>OX (fnD a1) fun q5=>OX (isoCall cf q5.1 ([x3]++q5.2)) fun x4=>WB x4
 (Q .ret (mkf 19 [(0,.top),(1,.top),(4,a8),(7,.top),(8,.top),(9,.top)]) S)
 (OX (binD .add .num a8 (.i .i64 1)) fun x6=>Q .normal (mkf 19 [(0,a0),(1,a1),(4,a4),(7,a7),(8,x6),(9,.top)]) S))
 (Q (.exit 0) (mkf 19 [(0,a0),(1,a1),(4,a4),(7,a7),(8,a8),(9,x1)]) S)
theorem e159_0:wp cf c159_0 (fkill (mkf 19 [(0,a0),(1,a1),(4,a4),(7,a7),(8,a8),(9,a9)]) []) S Q=s159_0 cf a0 a1 a4 a7 a8 a9 S Q:=wpS_of (by kernel_rfl)
def s159 (cf:CallF) (a0 a1:D) (S:Store) (Post:PT):Prop:=
 OX (lenD false a0) fun x7=>W cf (.loop [] c159_0) (mkf 19 [(0,a0),(1,a1),(4,.top),(7,x7),(8,(.i .i64 0)),(9,.top)]) S (Qblk 0 (QS cf c159_r0 (FinK [.t 4] Post)))
theorem e159:wp cf c159 (frame0 d159 [a0,a1]) S (FinK d159.res Post)=s159 cf a0 a1 S Post:=wpS_of (by kernel_rfl)
theorem j159 (a0 a1:D) (Post:D→Prop) (ha:noRefL (stripL [a0,a1])=true) (hr:∀ r,Post r→noRef r=true) (h:s159 (call dp) (strip a0) (strip a1) [] fun d _=>Post (stripT d)):∃ r,isoCall (call dp) 159 [a0,a1]=some r∧Post r:=iso_x (f:=d159) rfl ⟨rfl,by decide⟩ ha hr (by rw [←e159] at h;exact h)
def s148 (cf:CallF) (a0 a1:D) (S:Store) (Post:PT):Prop:=
 bxx 4 true a0 S fun x1 S2=>bxx 4 true a1 S2 fun x3 S4=>OX (faD 0 x1) fun x5=>OX (ldD S4 3 true x5) fun x6=>OX (faD 0 x3) fun x7=>OX (ldD S4 3 true x7) fun x8=>OX (isoCall cf 149 [x6,x8]) fun x9=>OX (faD 3 x1) fun x10=>OX (ldD S4 1 false x10) fun x11=>OX (faD 3 x3) fun x12=>OX (ldD S4 1 false x12) fun x13=>OX (isoCall cf 146 [x11,x13]) fun x14=>OX (cellsV 1 false [x9,x14]) fun x15=>OX (isoCall cf 143 [(.sl 1 false x15 .ro)]) fun x16=>Post x16 S4
theorem e148:wp cf c148 (frame0 d148 [a0,a1]) S (FinK d148.res Post)=s148 cf a0 a1 S Post:=wpS_of (by kernel_rfl)
theorem i148 (a0 a1:D) (r:D) (ha:noRefL (stripL [a0,a1])=true) (hr:noRef r=true) (h:s148 (call dp) (strip a0) (strip a1) [] fun d _=>stripT d=r):isoCall (call dp) 148 [a0,a1]=some r:=iso_s (f:=d148) rfl ⟨rfl,by decide⟩ ha hr (by rw [←e148] at h;exact h)
def s151 (cf:CallF) (a0 a1:D) (S:Store) (Post:PT):Prop:=
 OX (isoCall cf 146 [a0,a1]) fun x1=>OX (binD .eql .num x1 (.i .i64 0)) fun x2=>Post x2 S
theorem e151:wp cf c151 (frame0 d151 [a0,a1]) S (FinK d151.res Post)=s151 cf a0 a1 S Post:=wpS_of (by kernel_rfl)
theorem i151 (a0 a1:D) (r:D) (ha:noRefL (stripL [a0,a1])=true) (hr:noRef r=true) (h:s151 (call dp) (strip a0) (strip a1) [] fun d _=>stripT d=r):isoCall (call dp) 151 [a0,a1]=some r:=iso_s (f:=d151) rfl ⟨rfl,by decide⟩ ha hr (by rw [←e151] at h;exact h)
def s146 (cf:CallF) (a0 a1:D) (S:Store) (Post:PT):Prop:=
 OX (isoCall cf 188 [a0,a1,(.fn 189 [])]) fun x1=>Post x1 S
theorem e146:wp cf c146 (frame0 d146 [a0,a1]) S (FinK d146.res Post)=s146 cf a0 a1 S Post:=wpS_of (by kernel_rfl)
theorem i146 (a0 a1:D) (r:D) (ha:noRefL (stripL [a0,a1])=true) (hr:noRef r=true) (h:s146 (call dp) (strip a0) (strip a1) [] fun d _=>stripT d=r):isoCall (call dp) 146 [a0,a1]=some r:=iso_s (f:=d146) rfl ⟨rfl,by decide⟩ ha hr (by rw [←e146] at h;exact h)
def s188_r0 (cf:CallF) (a0 a1 a2 a6 a11 a12 a13 a14:D) (S:Store) (Q:QT):Prop:=
 OX (lenD false a0) fun x1=>OX (lenD false a1) fun x2=>OX (binD .lss .num x1 x2) fun x3=>WB x3
 (Q .ret (mkf 39 [(0,.top),(1,.top),(2,.top),(6,(.i .i64 (-1))),(11,.top),(12,.top),(13,.top),(14,.top)]) S)
 (Q .ret (mkf 39 [(0,.top),(1,.top),(2,.top),(6,(.i .i64 0)),(11,.top),(12,.top),(13,.top),(14,.top)]) S)
theorem e188_r0:wp cf c188_r0 (mkf 39 [(0,a0),(1,a1),(2,a2),(6,a6),(11,a11),(12,a12),(13,a13),(14,a14)]) S Q=s188_r0 cf a0 a1 a2 a6 a11 a12 a13 a14 S Q:=wpS_of (by kernel_rfl)
def s188_0 (cf:CallF) (a0 a1 a2 a6 a11 a12 a13 a14:D) (S:Store) (Q:QT):Prop:=
 OX (binD .lss .num a13 a12) fun x4=>WB x4
 (OX (iaD 2 a11 a13) fun x5=>OX (ldD S 2 true x5) fun x6=>al [.i .i64 0,.sl 11 true [] .ro] S fun x7 S8=>OX (stD S8 2 true x7 x6) fun S10=>OX (lenD false a1) fun x11=>OX (binD .geq .num a13 x11) fun x12=>WB x12
 (Q .ret (mkf 39 [(0,.top),(1,.top),(2,.top),(6,(.i .i64 1)),(11,.top),(12,.top),(13,.top),(14,.top)]) S10)
 (OX (iaD 2 a1 a13) fun x13=>OX (ldD S10 2 true x13) fun x14=>al [.i .i64 0,.sl 11 true [] .ro] S10 fun x15 S16=>OX (stD S16 2 true x15 x14) fun S18=>OX (ldD S18 2 true x7) fun x19=>OX (ldD S18 2 true x15) fun x20=>OX (fnD a2) fun q22=>OX (isoCall cf q22.1 ([x19,x20]++q22.2)) fun x21=>OX (binD .neq .num x21 (.i .i64 0)) fun x23=>WB x23
 (Q .ret (mkf 39 [(0,.top),(1,.top),(2,.top),(6,x21),(11,.top),(12,.top),(13,.top),(14,.top)]) S18)
 (OX (binD .add .num a13 (.i .i64 1)) fun x24=>Q .normal (mkf 39 [(0,a0),(1,a1),(2,a2),(6,a6),(11,a11),(12,a12),(13,x24),(14,.top)]) S18)))
 (Q (.exit 0) (mkf 39 [(0,a0),(1,a1),(2,a2),(6,a6),(11,a11),(12,a12),(13,a13),(14,x4)]) S)
theorem e188_0:wp cf c188_0 (fkill (mkf 39 [(0,a0),(1,a1),(2,a2),(6,a6),(11,a11),(12,a12),(13,a13),(14,a14)]) []) S Q=s188_0 cf a0 a1 a2 a6 a11 a12 a13 a14 S Q:=wpS_of (by kernel_rfl)
def s188 (cf:CallF) (a0 a1 a2:D) (S:Store) (Post:PT):Prop:=
 OX (lenD false a0) fun x25=>W cf (.loop [] c188_0) (mkf 39 [(0,a0),(1,a1),(2,a2),(6,.top),(11,a0),(12,x25),(13,(.i .i64 0)),(14,.top)]) S (Qblk 0 (QS cf c188_r0 (FinK [.t 6] Post)))
theorem e188:wp cf c188 (frame0 d188 [a0,a1,a2]) S (FinK d188.res Post)=s188 cf a0 a1 a2 S Post:=wpS_of (by kernel_rfl)
theorem i188 (a0 a1 a2:D) (r:D) (ha:noRefL (stripL [a0,a1,a2])=true) (hr:noRef r=true) (h:s188 (call dp) (strip a0) (strip a1) (strip a2) [] fun d _=>stripT d=r):isoCall (call dp) 188 [a0,a1,a2]=some r:=iso_s (f:=d188) rfl ⟨rfl,by decide⟩ ha hr (by rw [←e188] at h;exact h)
def s189 (cf:CallF) (a0 a1:D) (S:Store) (Post:PT):Prop:=
 bxx 2 true a0 S fun x1 S2=>bxx 2 true a1 S2 fun x3 S4=>OX (ldD S4 2 true x1) fun x5=>OX (ldD S4 2 true x3) fun x6=>OX (isoCall cf 97 [x5,x6]) fun x7=>OX (faD 0 x1) fun x8=>OX (ldD S4 1 false x8) fun x9=>OX (faD 0 x3) fun x10=>OX (ldD S4 1 false x10) fun x11=>OX (isoCall cf 190 [x9,x11]) fun x12=>OX (cellsV 1 false [x7,x12]) fun x13=>OX (isoCall cf 143 [(.sl 1 false x13 .ro)]) fun x14=>Post x14 S4
theorem e189:wp cf c189 (frame0 d189 [a0,a1]) S (FinK d189.res Post)=s189 cf a0 a1 S Post:=wpS_of (by kernel_rfl)
theorem i189 (a0 a1:D) (r:D) (ha:noRefL (stripL [a0,a1])=true) (hr:noRef r=true) (h:s189 (call dp) (strip a0) (strip a1) [] fun d _=>stripT d=r):isoCall (call dp) 189 [a0,a1]=some r:=iso_s (f:=d189) rfl ⟨rfl,by decide⟩ ha hr (by rw [←e189] at h;exact h)
def s152 (cf:CallF) (a0:D) (S:Store) (Post:PT):Prop:=
 OX (lenD false a0) fun x1=>OX (binD .eql .num x1 (.i .i64 1)) fun x2=>OX (gsel x2 true (some a0)) fun x3=>OX (gsel x2 true (iaD 2 x3 (.i .i64 0))) fun x4=>OX (gsel x2 true (faD 1 x4)) fun x5=>OX (gsel x2 true (ldD S 1 false x5)) fun x6=>OX (gsel x2 true (lenD false x6)) fun x7=>OX (gsel x2 true (binD .eql .num x7 (.i .i64 0))) fun x8=>OX (pickD x2 x8 (.b false)) fun x9=>Post x9 S
theorem e152:wp cf c152 (frame0 d152 [a0]) S (FinK d152.res Post)=s152 cf a0 S Post:=wpS_of (by kernel_rfl)
theorem i152 (a0:D) (r:D) (ha:noRefL (stripL [a0])=true) (hr:noRef r=true) (h:s152 (call dp) (strip a0) [] fun d _=>stripT d=r):isoCall (call dp) 152 [a0]=some r:=iso_s (f:=d152) rfl ⟨rfl,by decide⟩ ha hr (by rw [←e152] at h;exact h)
def s153 (cf:CallF) (a0:D) (S:Store) (Post:PT):Prop:=
 OX (lenD false a0) fun x1=>OX (binD .neq .num x1 (.i .i64 1)) fun x2=>OX (gsel x2 false (some a0)) fun x3=>OX (gsel x2 false (iaD 2 x3 (.i .i64 0))) fun x4=>OX (gsel x2 false (faD 0 x4)) fun x5=>OX (gsel x2 false (ldD S 1 false x5)) fun x6=>OX (gsel x2 false (binD .neq .num x6 (.i .i64 1))) fun x7=>OX (pickD x2 (.b true) x7) fun x8=>OX (gsel x8 false (some a0)) fun x9=>OX (gsel x8 false (iaD 2 x9 (.i .i64 0))) fun x10=>OX (gsel x8 false (faD 1 x10)) fun x11=>OX (gsel x8 false (ldD S 1 false x11)) fun x12=>OX (gsel x8 false (lenD false x12)) fun x13=>OX (gsel x8 false (binD .neq .num x13 (.i .i64 1))) fun x14=>OX (pickD x8 (.b true) x14) fun x15=>WB x15
 (Post (.b false) S)
 (OX (iaD 2 a0 (.i .i64 0)) fun x16=>OX (faD 1 x16) fun x17=>OX (ldD S 1 false x17) fun x18=>OX (iaD 11 x18 (.i .i64 0)) fun x19=>OX (ldD S 11 true x19) fun x20=>al [.i .i64 0,.i .i64 0,.i .i64 0,.sl 1 true [] .ro,.i .i64 0,.sl 4 true [] .ro,.i .i64 0,.i .i64 0,.i .i64 0,.s [],.i .i64 0] S fun x21 S22=>OX (stD S22 11 true x21 x20) fun S24=>OX (faD 10 x21) fun x25=>OX (ldD S24 1 false x25) fun x26=>OX (binD .eql .num x26 (.i .i64 1)) fun x27=>OX (gsel x27 true (faD 0 x21)) fun x28=>OX (gsel x27 true (faD 0 x28)) fun x29=>OX (gsel x27 true (ldD S24 1 false x29)) fun x30=>OX (gsel x27 true (binD .eql .num x30 (.i .i64 2))) fun x31=>OX (gsel x27 true (some x31)) fun x32=>OX (gsel x32 false (faD 0 x21)) fun x33=>OX (gsel x32 false (ldD S24 10 true x33)) fun x34=>OX (gsel x32 false (isoCall cf 98 [x34])) fun x35=>OX (gsel x27 true (pickD x32 (.b true) x35)) fun x36=>OX (pickD x27 x36 (.b false)) fun x37=>Post x37 S24)
theorem e153:wp cf c153 (frame0 d153 [a0]) S (FinK d153.res Post)=s153 cf a0 S Post:=wpS_of (by kernel_rfl)
theorem i153 (a0:D) (r:D) (ha:noRefL (stripL [a0])=true) (hr:noRef r=true) (h:s153 (call dp) (strip a0) [] fun d _=>stripT d=r):isoCall (call dp) 153 [a0]=some r:=iso_s (f:=d153) rfl ⟨rfl,by decide⟩ ha hr (by rw [←e153] at h;exact h)
def s98 (cf:CallF) (a0:D) (S:Store) (Post:PT):Prop:=
 bxx 10 true a0 S fun x1 S2=>OX (faD 0 x1) fun x3=>OX (ldD S2 1 false x3) fun x4=>OX (binD .eql .num x4 (.i .i64 3)) fun x5=>OX (gsel x5 false (faD 0 x1)) fun x6=>OX (gsel x5 false (ldD S2 1 false x6)) fun x7=>OX (gsel x5 false (binD .eql .num x7 (.i .i64 4))) fun x8=>OX (pickD x5 (.b true) x8) fun x9=>Post x9 S2
theorem e98:wp cf c98 (frame0 d98 [a0]) S (FinK d98.res Post)=s98 cf a0 S Post:=wpS_of (by kernel_rfl)
theorem i98 (a0:D) (r:D) (ha:noRefL (stripL [a0])=true) (hr:noRef r=true) (h:s98 (call dp) (strip a0) [] fun d _=>stripT d=r):isoCall (call dp) 98 [a0]=some r:=iso_s (f:=d98) rfl ⟨rfl,by decide⟩ ha hr (by rw [←e98] at h;exact h)
def s154 (cf:CallF) (a0:D) (S:Store) (Post:PT):Prop:=
 OX (isoCall cf 137 [a0,(.fn 192 [])]) fun x1=>Post x1 S
theorem e154:wp cf c154 (frame0 d154 [a0]) S (FinK d154.res Post)=s154 cf a0 S Post:=wpS_of (by kernel_rfl)
theorem i154 (a0:D) (r:D) (ha:noRefL (stripL [a0])=true) (hr:noRef r=true) (h:s154 (call dp) (strip a0) [] fun d _=>stripT d=r):isoCall (call dp) 154 [a0]=some r:=iso_s (f:=d154) rfl ⟨rfl,by decide⟩ ha hr (by rw [←e154] at h;exact h)
def s192 (cf:CallF) (a0:D) (S:Store) (Post:PT):Prop:=
 bxx 2 true a0 S fun x1 S2=>OX (faD 1 x1) fun x3=>OX (ldD S2 1 false x3) fun x4=>OX (lenD false x4) fun x5=>OX (binD .eql .num x5 (.i .i64 0)) fun x6=>Post x6 S2
theorem e192:wp cf c192 (frame0 d192 [a0]) S (FinK d192.res Post)=s192 cf a0 S Post:=wpS_of (by kernel_rfl)
theorem i192 (a0:D) (r:D) (ha:noRefL (stripL [a0])=true) (hr:noRef r=true) (h:s192 (call dp) (strip a0) [] fun d _=>stripT d=r):isoCall (call dp) 192 [a0]=some r:=iso_s (f:=d192) rfl ⟨rfl,by decide⟩ ha hr (by rw [←e192] at h;exact h)
def s155 (cf:CallF) (a0 a1:D) (S:Store) (Post:PT):Prop:=
 OX (isoCall cf 193 [a0,a1]) fun x1=>OX (binD .geq .num x1 (.i .i64 0)) fun x2=>Post x2 S
theorem e155:wp cf c155 (frame0 d155 [a0,a1]) S (FinK d155.res Post)=s155 cf a0 a1 S Post:=wpS_of (by kernel_rfl)
theorem i155 (a0 a1:D) (r:D) (ha:noRefL (stripL [a0,a1])=true) (hr:noRef r=true) (h:s155 (call dp) (strip a0) (strip a1) [] fun d _=>stripT d=r):isoCall (call dp) 155 [a0,a1]=some r:=iso_s (f:=d155) rfl ⟨rfl,by decide⟩ ha hr (by rw [←e155] at h;exact h)
def s193_r0 (cf:CallF) (a0 a1 a4 a7 a8 a9:D) (S:Store) (Q:QT):Prop:=
 Q .ret (mkf 19 [(0,.top),(1,.top),(4,(.i .i64 (-1))),(7,.top),(8,.top),(9,.top)]) S
theorem e193_r0:wp cf c193_r0 (mkf 19 [(0,a0),(1,a1),(4,a4),(7,a7),(8,a8),(9,a9)]) S Q=s193_r0 cf a0 a1 a4 a7 a8 a9 S Q:=wpS_of (by kernel_rfl)
def s193_0 (cf:CallF) (a0 a1 a4 a7 a8 a9:D) (S:Store) (Q:QT):Prop:=
 OX (binD .lss .num a8 a7) fun x1=>WB x1
 (OX (iaD 4 a0 a8) fun x2=>OX (ldD S 4 true x2) fun x3=>OX (fnD a1) fun q5=>OX (isoCall cf q5.1 ([x3]++q5.2)) fun x4=>WB x4
 (Q .ret (mkf 19 [(0,.top),(1,.top),(4,a8),(7,.top),(8,.top),(9,.top)]) S)
 (OX (binD .add .num a8 (.i .i64 1)) fun x6=>Q .normal (mkf 19 [(0,a0),(1,a1),(4,a4),(7,a7),(8,x6),(9,.top)]) S))
 (Q (.exit 0) (mkf 19 [(0,a0),(1,a1),(4,a4),(7,a7),(8,a8),(9,x1)]) S)
theorem e193_0:wp cf c193_0 (fkill (mkf 19 [(0,a0),(1,a1),(4,a4),(7,a7),(8,a8),(9,a9)]) []) S Q=s193_0 cf a0 a1 a4 a7 a8 a9 S Q:=wpS_of (by kernel_rfl)
def s193 (cf:CallF) (a0 a1:D) (S:Store) (Post:PT):Prop:=
 OX (lenD false a0) fun x7=>W cf (.loop [] c193_0) (mkf 19 [(0,a0),(1,a1),(4,.top),(7,x7),(8,(.i .i64 0)),(9,.top)]) S (Qblk 0 (QS cf c193_r0 (FinK [.t 4] Post)))
theorem e193:wp cf c193 (frame0 d193 [a0,a1]) S (FinK d193.res Post)=s193 cf a0 a1 S Post:=wpS_of (by kernel_rfl)
theorem j193 (a0 a1:D) (Post:D→Prop) (ha:noRefL (stripL [a0,a1])=true) (hr:∀ r,Post r→noRef r=true) (h:s193 (call dp) (strip a0) (strip a1) [] fun d _=>Post (stripT d)):∃ r,isoCall (call dp) 193 [a0,a1]=some r∧Post r:=iso_x (f:=d193) rfl ⟨rfl,by decide⟩ ha hr (by rw [←e193] at h;exact h)
def s158 (cf:CallF) (a0 a1 a2 a3:D) (S:Store) (Post:PT):Prop:=
 bxx 1 false a0 S fun x1 S2=>bxx 3 true a3 S2 fun x3 S4=>OX (ldD S4 1 false x1) fun x5=>OX (binD .lss .num x5 (.i .i64 0)) fun x6=>OX (gsel x6 false (ldD S4 1 false x1)) fun x7=>OX (gsel x6 false (binD .gtr .num x7 (.i .i64 3))) fun x8=>OX (pickD x6 (.b true) x8) fun x9=>OX (gsel x9 false (some a2)) fun x10=>OX (gsel x9 false (binD .lss .num x10 (.i .i64 5))) fun x11=>OX (pickD x9 (.b true) x11) fun x12=>OX (gsel x12 false (some a2)) fun x13=>OX (gsel x12 false (binD .gtr .num x13 (.i .i64 10))) fun x14=>OX (pickD x12 (.b true) x14) fun x15=>OX (gsel x15 false (ldD S4 3 true x3)) fun x16=>OX (gsel x15 false (isoCall cf 194 [x16])) fun x17=>OX (gsel x15 false (unD .not x17)) fun x18=>OX (pickD x15 (.b true) x18) fun x19=>WB x19
 (Post (.b false) S4)
 (OX (ldD S4 1 false x1) fun x20=>OX (binD .eql .num x20 (.i .i64 0)) fun x21=>OX (gsel x21 false (ldD S4 1 false x1)) fun x22=>OX (gsel x21 false (binD .eql .num x22 (.i .i64 1))) fun x23=>OX (pickD x21 (.b true) x23) fun x24=>OX (gsel x24 true (faD 0 x3)) fun x25=>OX (gsel x24 true (ldD S4 1 false x25)) fun x26=>OX (gsel x24 true (binD .neq .num x26 (.i .i64 0))) fun x27=>OX (pickD x24 x27 (.b false)) fun x28=>WB x28
 (Post (.b false) S4)
 (OX (cf 2155 [a1,(.fn 195 [x3,x1])] S4) fun p30=>OX (unD .not p30.1) fun x31=>Post x31 p30.2))
theorem e158:wp cf c158 (frame0 d158 [a0,a1,a2,a3]) S (FinK d158.res Post)=s158 cf a0 a1 a2 a3 S Post:=wpS_of (by kernel_rfl)
theorem i158 (a0 a1 a2 a3:D) (r:D) (ha:noRefL (stripL [a0,a1,a2,a3])=true) (hr:noRef r=true) (h:s158 (call dp) (strip a0) (strip a1) (strip a2) (strip a3) [] fun d _=>stripT d=r):isoCall (call dp) 158 [a0,a1,a2,a3]=some r:=iso_s (f:=d158) rfl ⟨rfl,by decide⟩ ha hr (by rw [←e158] at h;exact h)
def s195 (cf:CallF) (a0 a1 a2:D) (S:Store) (Post:PT):Prop:=
 bxx 4 true a0 S fun x1 S2=>OX (faD 0 x1) fun x3=>OX (ldD S2 3 true x3) fun x4=>OX (isoCall cf 194 [x4]) fun x5=>OX (unD .not x5) fun x6=>OX (gsel x6 false (faD 0 x1)) fun x7=>OX (gsel x6 false (faD 0 x7)) fun x8=>OX (gsel x6 false (ldD S2 1 false x8)) fun x9=>OX (gsel x6 false (faD 0 a1)) fun x10=>OX (gsel x6 false (ldD S2 1 false x10)) fun x11=>OX (gsel x6 false (binD .neq .num x9 x11)) fun x12=>OX (pickD x6 (.b true) x12) fun x13=>OX (gsel x13 false (ldD S2 1 false a2)) fun x14=>OX (gsel x13 false (binD .eql .num x14 (.i .i64 0))) fun x15=>OX (gsel x13 false (some x15)) fun x16=>OX (gsel x16 true (faD 0 x1)) fun x17=>OX (gsel x16 true (faD 1 x17)) fun x18=>OX (gsel x16 true (ldD S2 1 false x18)) fun x19=>OX (gsel x16 true (binD .neq .num x19 (.i .i64 1))) fun x20=>OX (gsel x13 false (pickD x16 x20 (.b false))) fun x21=>OX (pickD x13 (.b true) x21) fun x22=>Post x22 S2
theorem e195:wp cf c195 (frame0 d195 [a0,a1,a2]) S (FinK d195.res Post)=s195 cf a0 a1 a2 S Post:=wpS_of (by kernel_rfl)
theorem f195 (a0 a1 a2:D) (S:Store) (Post:PT) (h:s195 (call dp) a0 a1 a2 S Post):∃ r S',call dp 195 [a0,a1,a2] S=some (r,S')∧Post r S':=call_s (f:=d195) rfl ⟨rfl,by decide⟩ (by rw [←e195] at h;exact h)
def s2155 (cf:CallF) (a0 a1:D) (S:Store) (Post:PT):Prop:=
 OX (cf 2193 [a0,a1] S) fun p2=>OX (binD .geq .num p2.1 (.i .i64 0)) fun x3=>Post x3 p2.2
theorem e2155:wp cf c2155 (frame0 d2155 [a0,a1]) S (FinK d2155.res Post)=s2155 cf a0 a1 S Post:=wpS_of (by kernel_rfl)
theorem f2155 (a0 a1:D) (S:Store) (Post:PT) (h:s2155 (call dp) a0 a1 S Post):∃ r S',call dp 2155 [a0,a1] S=some (r,S')∧Post r S':=call_s (f:=d2155) rfl ⟨rfl,by decide⟩ (by rw [←e2155] at h;exact h)
def s2193_r0 (cf:CallF) (a0 a1 a4 a7 a8 a9:D) (S:Store) (Q:QT):Prop:=
 Q .ret (mkf 19 [(0,.top),(1,.top),(4,(.i .i64 (-1))),(7,.top),(8,.top),(9,.top)]) S
theorem e2193_r0:wp cf c2193_r0 (mkf 19 [(0,a0),(1,a1),(4,a4),(7,a7),(8,a8),(9,a9)]) S Q=s2193_r0 cf a0 a1 a4 a7 a8 a9 S Q:=wpS_of (by kernel_rfl)
def s2193_0 (cf:CallF) (a0 a1 a4 a7 a8 a9:D) (S:Store) (Q:QT):Prop:=
 OX (binD .lss .num a8 a7) fun x1=>WB x1
 (OX (iaD 4 a0 a8) fun x2=>OX (ldD S 4 true x2) fun x3=>OX (fnD a1) fun q5=>OX (cf q5.1 ([x3]++q5.2) S) fun p6=>WB p6.1
 (Q .ret (mkf 19 [(0,.top),(1,.top),(4,a8),(7,.top),(8,.top),(9,.top)]) p6.2)
 (OX (binD .add .num a8 (.i .i64 1)) fun x7=>Q .normal (mkf 19 [(0,a0),(1,a1),(4,a4),(7,a7),(8,x7),(9,.top)]) p6.2))
 (Q (.exit 0) (mkf 19 [(0,a0),(1,a1),(4,a4),(7,a7),(8,a8),(9,x1)]) S)
theorem e2193_0:wp cf c2193_0 (fkill (mkf 19 [(0,a0),(1,a1),(4,a4),(7,a7),(8,a8),(9,a9)]) []) S Q=s2193_0 cf a0 a1 a4 a7 a8 a9 S Q:=wpS_of (by kernel_rfl)
def s2193 (cf:CallF) (a0 a1:D) (S:Store) (Post:PT):Prop:=
 OX (lenD false a0) fun x8=>W cf (.loop [] c2193_0) (mkf 19 [(0,a0),(1,a1),(4,.top),(7,x8),(8,(.i .i64 0)),(9,.top)]) S (Qblk 0 (QS cf c2193_r0 (FinK [.t 4] Post)))
theorem e2193:wp cf c2193 (frame0 d2193 [a0,a1]) S (FinK d2193.res Post)=s2193 cf a0 a1 S Post:=wpS_of (by kernel_rfl)
theorem f2193 (a0 a1:D) (S:Store) (Post:PT) (h:s2193 (call dp) a0 a1 S Post):∃ r S',call dp 2193 [a0,a1] S=some (r,S')∧Post r S':=call_s (f:=d2193) rfl ⟨rfl,by decide⟩ (by rw [←e2193] at h;exact h)
def s157_r0 (cf:CallF) (a0 a1 a4 a5 a10:D) (S:Store) (Q:QT):Prop:=
 Q .ret (mkf 25 [(0,.top),(1,.top),(4,(.b true)),(5,.top),(10,.top)]) S
theorem e157_r0:wp cf c157_r0 (mkf 25 [(0,a0),(1,a1),(4,a4),(5,a5),(10,a10)]) S Q=s157_r0 cf a0 a1 a4 a5 a10 S Q:=wpS_of (by kernel_rfl)
def s157_0 (cf:CallF) (a0 a1 a4 a5 a10:D) (S:Store) (Q:QT):Prop:=
 OX (binD .gtr .num a5 (.i .i64 0)) fun x1=>WB x1
 (OX (iaD 4 a0 a5) fun x2=>OX (ldD S 4 true x2) fun x3=>OX (binD .sub .num a5 (.i .i64 1)) fun x4=>OX (iaD 4 a0 x4) fun x5=>OX (ldD S 4 true x5) fun x6=>OX (fnD a1) fun q8=>OX (isoCall cf q8.1 ([x3,x6]++q8.2)) fun x7=>OX (binD .lss .num x7 (.i .i64 0)) fun x9=>WB x9
 (Q .ret (mkf 25 [(0,.top),(1,.top),(4,(.b false)),(5,.top),(10,.top)]) S)
 (OX (binD .sub .num a5 (.i .i64 1)) fun x10=>Q .normal (mkf 25 [(0,a0),(1,a1),(4,a4),(5,x10),(10,.top)]) S))
 (Q (.exit 0) (mkf 25 [(0,a0),(1,a1),(4,a4),(5,a5),(10,x1)]) S)
theorem e157_0:wp cf c157_0 (fkill (mkf 25 [(0,a0),(1,a1),(4,a4),(5,a5),(10,a10)]) []) S Q=s157_0 cf a0 a1 a4 a5 a10 S Q:=wpS_of (by kernel_rfl)
def s157 (cf:CallF) (a0 a1:D) (S:Store) (Post:PT):Prop:=
 OX (lenD false a0) fun x11=>OX (binD .sub .num x11 (.i .i64 1)) fun x12=>W cf (.loop [] c157_0) (mkf 25 [(0,a0),(1,a1),(4,.top),(5,x12),(10,.top)]) S (Qblk 0 (QS cf c157_r0 (FinK [.t 4] Post)))
theorem e157:wp cf c157 (frame0 d157 [a0,a1]) S (FinK d157.res Post)=s157 cf a0 a1 S Post:=wpS_of (by kernel_rfl)
theorem i157 (a0 a1:D) (r:D) (ha:noRefL (stripL [a0,a1])=true) (hr:noRef r=true) (h:s157 (call dp) (strip a0) (strip a1) [] fun d _=>stripT d=r):isoCall (call dp) 157 [a0,a1]=some r:=iso_s (f:=d157) rfl ⟨rfl,by decide⟩ ha hr (by rw [←e157] at h;exact h)
def s147_r0 (cf:CallF) (a0 a1 a2 a6 a11 a12 a13 a14:D) (S:Store) (Q:QT):Prop:=
 OX (lenD false a0) fun x1=>OX (lenD false a1) fun x2=>OX (binD .lss .num x1 x2) fun x3=>WB x3
 (Q .ret (mkf 39 [(0,.top),(1,.top),(2,.top),(6,(.i .i64 (-1))),(11,.top),(12,.top),(13,.top),(14,.top)]) S)
 (Q .ret (mkf 39 [(0,.top),(1,.top),(2,.top),(6,(.i .i64 0)),(11,.top),(12,.top),(13,.top),(14,.top)]) S)
theorem e147_r0:wp cf c147_r0 (mkf 39 [(0,a0),(1,a1),(2,a2),(6,a6),(11,a11),(12,a12),(13,a13),(14,a14)]) S Q=s147_r0 cf a0 a1 a2 a6 a11 a12 a13 a14 S Q:=wpS_of (by kernel_rfl)
def s147_0 (cf:CallF) (a0 a1 a2 a6 a11 a12 a13 a14:D) (S:Store) (Q:QT):Prop:=
 OX (binD .lss .num a13 a12) fun x4=>WB x4
 (OX (iaD 4 a11 a13) fun x5=>OX (ldD S 4 true x5) fun x6=>al [.i .i64 0,.i .i64 0,.s [],.sl 2 true [] .ro] S fun x7 S8=>OX (stD S8 4 true x7 x6) fun S10=>OX (lenD false a1) fun x11=>OX (binD .geq .num a13 x11) fun x12=>WB x12
 (Q .ret (mkf 39 [(0,.top),(1,.top),(2,.top),(6,(.i .i64 1)),(11,.top),(12,.top),(13,.top),(14,.top)]) S10)
 (OX (iaD 4 a1 a13) fun x13=>OX (ldD S10 4 true x13) fun x14=>al [.i .i64 0,.i .i64 0,.s [],.sl 2 true [] .ro] S10 fun x15 S16=>OX (stD S16 4 true x15 x14) fun S18=>OX (ldD S18 4 true x7) fun x19=>OX (ldD S18 4 true x15) fun x20=>OX (fnD a2) fun q22=>OX (isoCall cf q22.1 ([x19,x20]++q22.2)) fun x21=>OX (binD .neq .num x21 (.i .i64 0)) fun x23=>WB x23
 (Q .ret (mkf 39 [(0,.top),(1,.top),(2,.top),(6,x21),(11,.top),(12,.top),(13,.top),(14,.top)]) S18)
 (OX (binD .add .num a13 (.i .i64 1)) fun x24=>Q .normal (mkf 39 [(0,a0),(1,a1),(2,a2),(6,a6),(11,a11),(12,a12),(13,x24),(14,.top)]) S18)))
 (Q (.exit 0) (mkf 39 [(0,a0),(1,a1),(2,a2),(6,a6),(11,a11),(12,a12),(13,a13),(14,x4)]) S)
theorem e147_0:wp cf c147_0 (fkill (mkf 39 [(0,a0),(1,a1),(2,a2),(6,a6),(11,a11),(12,a12),(13,a13),(14,a14)]) []) S Q=s147_0 cf a0 a1 a2 a6 a11 a12 a13 a14 S Q:=wpS_of (by kernel_rfl)
def s147 (cf:CallF) (a0 a1 a2:D) (S:Store) (Post:PT):Prop:=
 OX (lenD false a0) fun x25=>W cf (.loop [] c147_0) (mkf 39 [(0,a0),(1,a1),(2,a2),(6,.top),(11,a0),(12,x25),(13,(.i .i64 0)),(14,.top)]) S (Qblk 0 (QS cf c147_r0 (FinK [.t 6] Post)))
theorem e147:wp cf c147 (frame0 d147 [a0,a1,a2]) S (FinK d147.res Post)=s147 cf a0 a1 a2 S Post:=wpS_of (by kernel_rfl)
theorem i147 (a0 a1 a2:D) (r:D) (ha:noRefL (stripL [a0,a1,a2])=true) (hr:noRef r=true) (h:s147 (call dp) (strip a0) (strip a1) (strip a2) [] fun d _=>stripT d=r):isoCall (call dp) 147 [a0,a1,a2]=some r:=iso_s (f:=d147) rfl ⟨rfl,by decide⟩ ha hr (by rw [←e147] at h;exact h)
def s149 (cf:CallF) (a0 a1:D) (S:Store) (Post:PT):Prop:=
 bxx 3 true a0 S fun x1 S2=>bxx 3 true a1 S2 fun x3 S4=>OX (faD 0 x1) fun x5=>OX (ldD S4 1 false x5) fun x6=>OX (faD 0 x3) fun x7=>OX (ldD S4 1 false x7) fun x8=>OX (isoCall cf 144 [x6,x8]) fun x9=>OX (faD 1 x1) fun x10=>OX (ldD S4 1 false x10) fun x11=>OX (faD 1 x3) fun x12=>OX (ldD S4 1 false x12) fun x13=>OX (isoCall cf 190 [x11,x13]) fun x14=>OX (faD 2 x1) fun x15=>OX (ldD S4 1 false x15) fun x16=>OX (faD 2 x3) fun x17=>OX (ldD S4 1 false x17) fun x18=>OX (isoCall cf 191 [x16,x18]) fun x19=>OX (cellsV 1 false [x9,x14,x19]) fun x20=>OX (isoCall cf 143 [(.sl 1 false x20 .ro)]) fun x21=>Post x21 S4
theorem e149:wp cf c149 (frame0 d149 [a0,a1]) S (FinK d149.res Post)=s149 cf a0 a1 S Post:=wpS_of (by kernel_rfl)
theorem i149 (a0 a1:D) (r:D) (ha:noRefL (stripL [a0,a1])=true) (hr:noRef r=true) (h:s149 (call dp) (strip a0) (strip a1) [] fun d _=>stripT d=r):isoCall (call dp) 149 [a0,a1]=some r:=iso_s (f:=d149) rfl ⟨rfl,by decide⟩ ha hr (by rw [←e149] at h;exact h)
def s194 (cf:CallF) (a0:D) (S:Store) (Post:PT):Prop:=
 bxx 3 true a0 S fun x1 S2=>OX (faD 0 x1) fun x3=>OX (ldD S2 1 false x3) fun x4=>OX (binD .eql .num x4 (.i .i64 0)) fun x5=>WB x5
 (OX (faD 2 x1) fun x6=>OX (ldD S2 1 false x6) fun x7=>OX (binD .eql .str x7 (.s [])) fun x8=>Post x8 S2)
 (OX (binD .eql .num x4 (.i .i64 1)) fun x9=>WB x9
 (OX (faD 1 x1) fun x10=>OX (ldD S2 1 false x10) fun x11=>OX (binD .eql .num x11 (.i .i64 0)) fun x12=>OX (gsel x12 true (faD 2 x1)) fun x13=>OX (gsel x12 true (ldD S2 1 false x13)) fun x14=>OX (gsel x12 true (lenD true x14)) fun x15=>OX (gsel x12 true (binD .leq .num x15 (.i .i64 255))) fun x16=>OX (pickD x12 x16 (.b false)) fun x17=>Post x17 S2)
 (OX (binD .eql .num x4 (.i .i64 2)) fun x18=>WB x18
 (OX (faD 1 x1) fun x19=>OX (ldD S2 1 false x19) fun x20=>OX (binD .eql .num x20 (.i .i64 0)) fun x21=>OX (gsel x21 false (faD 1 x1)) fun x22=>OX (gsel x21 false (ldD S2 1 false x22)) fun x23=>OX (gsel x21 false (binD .eql .num x23 (.i .i64 1))) fun x24=>OX (pickD x21 (.b true) x24) fun x25=>OX (gsel x25 true (faD 2 x1)) fun x26=>OX (gsel x25 true (ldD S2 1 false x26)) fun x27=>OX (gsel x25 true (binD .eql .str x27 (.s []))) fun x28=>OX (pickD x25 x28 (.b false)) fun x29=>Post x29 S2)
 (Post (.b false) S2)))
theorem e194:wp cf c194 (frame0 d194 [a0]) S (FinK d194.res Post)=s194 cf a0 S Post:=wpS_of (by kernel_rfl)
theorem i194 (a0:D) (r:D) (ha:noRefL (stripL [a0])=true) (hr:noRef r=true) (h:s194 (call dp) (strip a0) [] fun d _=>stripT d=r):isoCall (call dp) 194 [a0]=some r:=iso_s (f:=d194) rfl ⟨rfl,by decide⟩ ha hr (by rw [←e194] at h;exact h)
def s191 (cf:CallF) (a0 a1:D) (S:Store) (Post:PT):Prop:=
 OX (isoCall cf 215 [a0,a1]) fun x1=>Post x1 S
theorem e191:wp cf c191 (frame0 d191 [a0,a1]) S (FinK d191.res Post)=s191 cf a0 a1 S Post:=wpS_of (by kernel_rfl)
theorem i191 (a0 a1:D) (r:D) (ha:noRefL (stripL [a0,a1])=true) (hr:noRef r=true) (h:s191 (call dp) (strip a0) (strip a1) [] fun d _=>stripT d=r):isoCall (call dp) 191 [a0,a1]=some r:=iso_s (f:=d191) rfl ⟨rfl,by decide⟩ ha hr (by rw [←e191] at h;exact h)
def s145_r0 (cf:CallF) (a0 a1 a2 a6 a11 a12 a13 a14:D) (S:Store) (Q:QT):Prop:=
 OX (lenD false a0) fun x1=>OX (lenD false a1) fun x2=>OX (binD .lss .num x1 x2) fun x3=>WB x3
 (Q .ret (mkf 39 [(0,.top),(1,.top),(2,.top),(6,(.i .i64 (-1))),(11,.top),(12,.top),(13,.top),(14,.top)]) S)
 (Q .ret (mkf 39 [(0,.top),(1,.top),(2,.top),(6,(.i .i64 0)),(11,.top),(12,.top),(13,.top),(14,.top)]) S)
theorem e145_r0:wp cf c145_r0 (mkf 39 [(0,a0),(1,a1),(2,a2),(6,a6),(11,a11),(12,a12),(13,a13),(14,a14)]) S Q=s145_r0 cf a0 a1 a2 a6 a11 a12 a13 a14 S Q:=wpS_of (by kernel_rfl)
def s145_0 (cf:CallF) (a0 a1 a2 a6 a11 a12 a13 a14:D) (S:Store) (Q:QT):Prop:=
 OX (binD .lss .num a13 a12) fun x4=>WB x4
 (OX (iaD 1 a11 a13) fun x5=>OX (ldD S 1 false x5) fun x6=>OX (lenD false a1) fun x7=>OX (binD .geq .num a13 x7) fun x8=>WB x8
 (Q .ret (mkf 39 [(0,.top),(1,.top),(2,.top),(6,(.i .i64 1)),(11,.top),(12,.top),(13,.top),(14,.top)]) S)
 (OX (iaD 1 a1 a13) fun x9=>OX (ldD S 1 false x9) fun x10=>OX (fnD a2) fun q12=>OX (isoCall cf q12.1 ([x6,x10]++q12.2)) fun x11=>OX (binD .neq .num x11 (.i .i64 0)) fun x13=>WB x13
 (Q .ret (mkf 39 [(0,.top),(1,.top),(2,.top),(6,x11),(11,.top),(12,.top),(13,.top),(14,.top)]) S)
 (OX (binD .add .num a13 (.i .i64 1)) fun x14=>Q .normal (mkf 39 [(0,a0),(1,a1),(2,a2),(6,a6),(11,a11),(12,a12),(13,x14),(14,.top)]) S)))
 (Q (.exit 0) (mkf 39 [(0,a0),(1,a1),(2,a2),(6,a6),(11,a11),(12,a12),(13,a13),(14,x4)]) S)
theorem e145_0:wp cf c145_0 (fkill (mkf 39 [(0,a0),(1,a1),(2,a2),(6,a6),(11,a11),(12,a12),(13,a13),(14,a14)]) []) S Q=s145_0 cf a0 a1 a2 a6 a11 a12 a13 a14 S Q:=wpS_of (by kernel_rfl)
def s145 (cf:CallF) (a0 a1 a2:D) (S:Store) (Post:PT):Prop:=
 OX (lenD false a0) fun x15=>W cf (.loop [] c145_0) (mkf 39 [(0,a0),(1,a1),(2,a2),(6,.top),(11,a0),(12,x15),(13,(.i .i64 0)),(14,.top)]) S (Qblk 0 (QS cf c145_r0 (FinK [.t 6] Post)))
theorem e145:wp cf c145 (frame0 d145 [a0,a1,a2]) S (FinK d145.res Post)=s145 cf a0 a1 a2 S Post:=wpS_of (by kernel_rfl)
theorem i145 (a0 a1 a2:D) (r:D) (ha:noRefL (stripL [a0,a1,a2])=true) (hr:noRef r=true) (h:s145 (call dp) (strip a0) (strip a1) (strip a2) [] fun d _=>stripT d=r):isoCall (call dp) 145 [a0,a1,a2]=some r:=iso_s (f:=d145) rfl ⟨rfl,by decide⟩ ha hr (by rw [←e145] at h;exact h)
end Go.Proofs.YtjlmeikcfdanmaaGreatDoor.DE

namespace Go.Proofs.YtjlmeikcfdanmaaGreatDoor.DE
open Go
variable (cf:CallF) (a0 a1 a2 a3 a4 a5 a6 a7 a8 a9 a10 a11 a12 a13 a14 a15 a16 a20 a21 a22 a23 a25 a26 a27 a28 a29 a32 a33 a34 a35 a36 a40 a41 a42 a43 a45 a46 a47 a48 a49 a84 a109:D) (S:Store) (Q:QT) (Post:PT)
def s4 (cf:CallF) (a0 a1 a2:D) (S:Store) (Post:PT):Prop:=
 OX (isoCall cf 10 []) fun x1=>OX (unD .not x1) fun x2=>OX (gsel x2 false (some a0)) fun x3=>OX (gsel x2 false (isoCall cf 12 [x3])) fun x4=>OX (gsel x2 false (unD .not x4)) fun x5=>OX (pickD x2 (.b true) x5) fun x6=>OX (gsel x6 false (some a1)) fun x7=>OX (gsel x6 false ((cellsV 1 false [x7]).map fun l=>.sl 1 false l .ro)) fun x8=>OX (gsel x6 false (isoCall cf 30 [(.i .i64 40),x8])) fun x9=>OX (gsel x6 false (unD .not x9)) fun x10=>OX (pickD x6 (.b true) x10) fun x11=>WB x11
 (OX (isoCall cf 10 []) fun x12=>Post x12 S)
 (OX (isoCall cf 31 [a0,a1,a2]) fun x13=>OX (extD x13 0) fun x14=>OX (extD x13 1) fun x15=>al [.sl 2 true [] .ro,.sl 3 true [] .ro,.i .i64 0] S fun x16 S17=>OX (stD S17 3 true x16 x14) fun S19=>OX (isoCall cf 32 [a0,a1,a2]) fun x20=>OX (extD x20 0) fun x21=>OX (extD x20 1) fun x22=>al [.sl 2 true [] .ro,.sl 3 true [] .ro,.i .i64 0] S19 fun x23 S24=>OX (stD S24 3 true x23 x21) fun S26=>OX (binD .eql .num x15 x22) fun x27=>OX (gsel x27 true (ldD S26 3 true x16)) fun x28=>OX (gsel x27 true (ldD S26 3 true x23)) fun x29=>OX (gsel x27 true (isoCall cf 17 [x28,x29])) fun x30=>OX (pickD x27 x30 (.b false)) fun x31=>OX (gsel x31 true (some x15)) fun x32=>OX (gsel x31 true (binD .neq .num x32 (.i .i64 0))) fun x33=>OX (gsel x31 true (some x33)) fun x34=>OX (gsel x34 false (ldD S26 3 true x16)) fun x35=>OX (gsel x34 false (isoCall cf 33 [x35])) fun x36=>OX (gsel x34 false (some x36)) fun x37=>OX (gsel x37 true (faD 1 x16)) fun x38=>OX (gsel x37 true (ldD S26 1 false x38)) fun x39=>OX (gsel x37 true (lenD false x39)) fun x40=>OX (gsel x37 true (some a2)) fun x41=>OX (gsel x37 true (binD .leq .num x40 x41)) fun x42=>OX (gsel x34 false (pickD x37 x42 (.b false))) fun x43=>OX (gsel x31 true (pickD x34 (.b true) x43)) fun x44=>OX (pickD x31 x44 (.b false)) fun x45=>Post x45 S26)
theorem e4:wp cf c4 (frame0 d4 [a0,a1,a2]) S (FinK d4.res Post)=s4 cf a0 a1 a2 S Post:=wpS_of (by kernel_rfl)
theorem i4 (a0 a1 a2:D) (r:D) (ha:noRefL (stripL [a0,a1,a2])=true) (hr:noRef r=true) (h:s4 (call dp) (strip a0) (strip a1) (strip a2) [] fun d _=>stripT d=r):isoCall (call dp) 4 [a0,a1,a2]=some r:=iso_s (f:=d4) rfl ⟨rfl,by decide⟩ ha hr (by rw [←e4] at h;exact h)
theorem j4 (a0 a1 a2:D) (Post:D→Prop) (ha:noRefL (stripL [a0,a1,a2])=true) (hr:∀ r,Post r→noRef r=true) (h:s4 (call dp) (strip a0) (strip a1) (strip a2) [] fun d _=>Post (stripT d)):∃ r,isoCall (call dp) 4 [a0,a1,a2]=some r∧Post r:=iso_x (f:=d4) rfl ⟨rfl,by decide⟩ ha hr (by rw [←e4] at h;exact h)
theorem f4 (a0 a1 a2:D) (S:Store) (Post:PT) (h:s4 (call dp) a0 a1 a2 S Post):∃ r S',call dp 4 [a0,a1,a2] S=some (r,S')∧Post r S':=call_s (f:=d4) rfl ⟨rfl,by decide⟩ (by rw [←e4] at h;exact h)
def s31 (cf:CallF) (a0 a1 a2:D) (S:Store) (Post:PT):Prop:=
 bxx 1 false a0 S fun x1 S2=>al [.sl 2 true [] .ro,.sl 3 true [] .ro,.i .i64 0] S2 fun x3 S4=>OX (ldD S4 1 false x1) fun x5=>OX (isoCall cf 48 [x5]) fun x6=>OX (unD .not x6) fun x7=>OX (gsel x7 false (some a1)) fun x8=>OX (gsel x7 false (isoCall cf 60 [x8])) fun x9=>OX (gsel x7 false (unD .not x9)) fun x10=>OX (pickD x7 (.b true) x10) fun x11=>OX (gsel x11 false (some a2)) fun x12=>OX (gsel x11 false (binD .lss .num x12 (.i .i64 0))) fun x13=>OX (pickD x11 (.b true) x13) fun x14=>WB x14
 (OX (bldV [.sl 2 true [] .ro,.sl 3 true [] .ro,.i .i64 0] []) fun x15=>OX (stD S4 3 true x3 (.agg x15)) fun S17=>OX (ldc S17 3 true x3) fun x18=>Post (.tup [x18,(.i .i64 1)]) S17)
 (OX (isoCall cf 61 [a1]) fun x19=>WB x19
 (OX (bldV [.sl 2 true [] .ro,.sl 3 true [] .ro,.i .i64 0] []) fun x20=>OX (stD S4 3 true x3 (.agg x20)) fun S22=>OX (ldc S22 3 true x3) fun x23=>Post (.tup [x23,(.i .i64 13)]) S22)
 (OX (isoCall cf 63 [a1]) fun x24=>OX (cf 62 [x24,(.fn 64 [x1])] S4) fun p26=>WB p26.1
 (OX (bldV [.sl 2 true [] .ro,.sl 3 true [] .ro,.i .i64 0] []) fun x27=>OX (stD p26.2 3 true x3 (.agg x27)) fun S29=>OX (ldc S29 3 true x3) fun x30=>Post (.tup [x30,(.i .i64 4)]) S29)
 (OX (ldD p26.2 1 false x1) fun x31=>OX (bldV [.sl 2 true [] .ro,.i .i64 0] [(0,1,false,x31),(1,1,false,a2)]) fun x32=>OX (isoCall cf 66 [(.agg x32),a1]) fun x33=>OX (extD x33 0) fun x34=>OX (extD x33 1) fun x35=>OX (stD p26.2 3 true x3 x34) fun S37=>OX (ldc S37 3 true x3) fun x38=>Post (.tup [x38,x35]) S37)))
theorem e31:wp cf c31 (frame0 d31 [a0,a1,a2]) S (FinK d31.res Post)=s31 cf a0 a1 a2 S Post:=wpS_of (by kernel_rfl)
theorem j31 (a0 a1 a2:D) (Post:D→Prop) (ha:noRefL (stripL [a0,a1,a2])=true) (hr:∀ r,Post r→noRef r=true) (h:s31 (call dp) (strip a0) (strip a1) (strip a2) [] fun d _=>Post (stripT d)):∃ r,isoCall (call dp) 31 [a0,a1,a2]=some r∧Post r:=iso_x (f:=d31) rfl ⟨rfl,by decide⟩ ha hr (by rw [←e31] at h;exact h)
def s32_r0 (cf:CallF) (a0 a1 a2 a6 a7 a8 a9 a33:D) (S:Store) (Q:QT):Prop:=
 OX (isoCall cf 70 [a0,a1,a2]) fun x1=>OX (extD x1 0) fun x2=>OX (extD x1 1) fun x3=>OX (unD .not x3) fun x4=>WB x4
 (OX (bldV [.sl 2 true [] .ro,.sl 3 true [] .ro,.i .i64 0] []) fun x5=>OX (stD S 3 true a6 (.agg x5)) fun S7=>Q .ret (mkf 57 [(0,.top),(1,.top),(2,.top),(6,a6),(7,(.i .i64 6)),(8,.top),(9,.top),(33,.top)]) S7)
 (OX (isoCall cf 18 [a0,x2]) fun x8=>OX (stD S 3 true a6 x8) fun S10=>Q .ret (mkf 57 [(0,.top),(1,.top),(2,.top),(6,a6),(7,(.i .i64 0)),(8,.top),(9,.top),(33,.top)]) S10)
theorem e32_r0:wp cf c32_r0 (mkf 57 [(0,a0),(1,a1),(2,a2),(6,a6),(7,a7),(8,a8),(9,a9),(33,a33)]) S Q=s32_r0 cf a0 a1 a2 a6 a7 a8 a9 a33 S Q:=wpS_of (by kernel_rfl)
def s32_0 (cf:CallF) (a0 a1 a2 a6 a7 a8 a9 a33:D) (S:Store) (Q:QT):Prop:=
 OX (lenD false a8) fun x11=>OX (binD .lss .num a9 x11) fun x12=>WB x12
 (OX (iaD 2 a8 a9) fun x13=>OX (ldD S 2 true x13) fun x14=>OX (isoCall cf 15 [a0,x14]) fun x15=>OX (binD .lss .num x15 (.i .i64 0)) fun x16=>WB x16
 (OX (bldV [.sl 2 true [] .ro,.sl 3 true [] .ro,.i .i64 0] []) fun x17=>OX (stD S 3 true a6 (.agg x17)) fun S19=>Q .ret (mkf 57 [(0,.top),(1,.top),(2,.top),(6,a6),(7,(.i .i64 4)),(8,.top),(9,.top),(33,.top)]) S19)
 (OX (binD .add .num a9 (.i .i64 1)) fun x20=>Q .normal (mkf 57 [(0,a0),(1,a1),(2,a2),(6,a6),(7,a7),(8,a8),(9,x20),(33,.top)]) S))
 (Q (.exit 0) (mkf 57 [(0,a0),(1,a1),(2,a2),(6,a6),(7,a7),(8,a8),(9,a9),(33,x12)]) S)
theorem e32_0:wp cf c32_0 (fkill (mkf 57 [(0,a0),(1,a1),(2,a2),(6,a6),(7,a7),(8,a8),(9,a9),(33,a33)]) []) S Q=s32_0 cf a0 a1 a2 a6 a7 a8 a9 a33 S Q:=wpS_of (by kernel_rfl)
def s32 (cf:CallF) (a0 a1 a2:D) (S:Store) (Post:PT):Prop:=
 al [.sl 2 true [] .ro,.sl 3 true [] .ro,.i .i64 0] S fun x21 S22=>OX (isoCall cf 16 [a0]) fun x23=>OX (unD .not x23) fun x24=>OX (gsel x24 false (some a1)) fun x25=>OX (gsel x24 false (isoCall cf 67 [x25])) fun x26=>OX (gsel x24 false (unD .not x26)) fun x27=>OX (pickD x24 (.b true) x27) fun x28=>OX (gsel x28 false (some a2)) fun x29=>OX (gsel x28 false (binD .lss .num x29 (.i .i64 0))) fun x30=>OX (pickD x28 (.b true) x30) fun x31=>WB x31
 (OX (bldV [.sl 2 true [] .ro,.sl 3 true [] .ro,.i .i64 0] []) fun x32=>OX (stD S22 3 true x21 (.agg x32)) fun S34=>OX (ldc S34 3 true x21) fun x35=>Post (.tup [x35,(.i .i64 1)]) S34)
 (OX (isoCall cf 68 [a1]) fun x36=>WB x36
 (OX (bldV [.sl 2 true [] .ro,.sl 3 true [] .ro,.i .i64 0] []) fun x37=>OX (stD S22 3 true x21 (.agg x37)) fun S39=>OX (ldc S39 3 true x21) fun x40=>Post (.tup [x40,(.i .i64 13)]) S39)
 (OX (isoCall cf 69 [a1]) fun x41=>W cf (.loop [] c32_0) (mkf 57 [(0,a0),(1,a1),(2,a2),(6,x21),(7,.top),(8,x41),(9,(.i .i64 0)),(33,.top)]) S22 (Qblk 0 (QS cf c32_r0 (FinK [.cell 6 3 true,.t 7] Post)))))
theorem e32:wp cf c32 (frame0 d32 [a0,a1,a2]) S (FinK d32.res Post)=s32 cf a0 a1 a2 S Post:=wpS_of (by kernel_rfl)
theorem j32 (a0 a1 a2:D) (Post:D→Prop) (ha:noRefL (stripL [a0,a1,a2])=true) (hr:∀ r,Post r→noRef r=true) (h:s32 (call dp) (strip a0) (strip a1) (strip a2) [] fun d _=>Post (stripT d)):∃ r,isoCall (call dp) 32 [a0,a1,a2]=some r∧Post r:=iso_x (f:=d32) rfl ⟨rfl,by decide⟩ ha hr (by rw [←e32] at h;exact h)
def s30_r0 (cf:CallF) (a0 a1 a4 a5 a9:D) (S:Store) (Q:QT):Prop:=
 Q .ret (mkf 20 [(0,.top),(1,.top),(4,(.b true)),(5,.top),(9,.top)]) S
theorem e30_r0:wp cf c30_r0 (mkf 20 [(0,a0),(1,a1),(4,a4),(5,a5),(9,a9)]) S Q=s30_r0 cf a0 a1 a4 a5 a9 S Q:=wpS_of (by kernel_rfl)
def s30_0 (cf:CallF) (a0 a1 a4 a5 a9:D) (S:Store) (Q:QT):Prop:=
 OX (lenD false a1) fun x1=>OX (binD .lss .num a5 x1) fun x2=>WB x2
 (OX (iaD 1 a1 a5) fun x3=>OX (ldD S 1 false x3) fun x4=>OX (isoCall cf 59 [x4,a0,(.i .i64 12)]) fun x5=>OX (binD .gtr .num x5 a0) fun x6=>WB x6
 (Q .ret (mkf 20 [(0,.top),(1,.top),(4,(.b false)),(5,.top),(9,.top)]) S)
 (OX (binD .add .num a5 (.i .i64 1)) fun x7=>Q .normal (mkf 20 [(0,a0),(1,a1),(4,a4),(5,x7),(9,.top)]) S))
 (Q (.exit 0) (mkf 20 [(0,a0),(1,a1),(4,a4),(5,a5),(9,x2)]) S)
theorem e30_0:wp cf c30_0 (fkill (mkf 20 [(0,a0),(1,a1),(4,a4),(5,a5),(9,a9)]) []) S Q=s30_0 cf a0 a1 a4 a5 a9 S Q:=wpS_of (by kernel_rfl)
def s30 (cf:CallF) (a0 a1:D) (S:Store) (Post:PT):Prop:=
 W cf (.loop [] c30_0) (mkf 20 [(0,a0),(1,a1),(4,.top),(5,(.i .i64 0)),(9,.top)]) S (Qblk 0 (QS cf c30_r0 (FinK [.t 4] Post)))
theorem e30:wp cf c30 (frame0 d30 [a0,a1]) S (FinK d30.res Post)=s30 cf a0 a1 S Post:=wpS_of (by kernel_rfl)
theorem j30 (a0 a1:D) (Post:D→Prop) (ha:noRefL (stripL [a0,a1])=true) (hr:∀ r,Post r→noRef r=true) (h:s30 (call dp) (strip a0) (strip a1) [] fun d _=>Post (stripT d)):∃ r,isoCall (call dp) 30 [a0,a1]=some r∧Post r:=iso_x (f:=d30) rfl ⟨rfl,by decide⟩ ha hr (by rw [←e30] at h;exact h)
def s59_0 (cf:CallF) (a0 a1 a2 a6 a7 a8 a9 a10 a11 a12 a25 a49 a84 a109:D) (S:Store) (Q:QT):Prop:=
 OX (faD 5 a10) fun x1=>OX (ldD S 1 false x1) fun x2=>OX (lenD false x2) fun x3=>OX (binD .lss .num a12 x3) fun x4=>OX (gsel x4 true (some a7)) fun x5=>OX (gsel x4 true (some a1)) fun x6=>OX (gsel x4 true (binD .leq .num x5 x6)) fun x7=>OX (pickD x4 x7 (.b false)) fun x8=>WB x8
 (OX (faD 5 a10) fun x9=>OX (ldD S 1 false x9) fun x10=>OX (iaD 4 x10 a12) fun x11=>OX (faD 0 x11) fun x12=>OX (faD 2 x12) fun x13=>OX (ldD S 1 false x13) fun x14=>OX (lenD true x14) fun x15=>OX (binD .add .num a7 x15) fun x16=>OX (faD 5 a10) fun x17=>OX (ldD S 1 false x17) fun x18=>OX (iaD 4 x18 a12) fun x19=>OX (faD 3 x19) fun x20=>OX (ldD S 1 false x20) fun x21=>OX (binD .sub .num a1 a7) fun x22=>OX (binD .sub .num a2 (.i .i64 1)) fun x23=>OX (isoCall cf 59 [x21,x22,x23]) fun x24=>OX (binD .add .num x16 x24) fun x25=>OX (binD .add .num a12 (.i .i64 1)) fun x26=>Q .normal (mkf 136 [(0,a0),(1,a1),(2,a2),(6,a6),(7,x25),(8,a8),(9,a9),(10,a10),(11,a11),(12,x26),(25,a25),(49,a49),(84,a84),(109,.top)]) S)
 (Q (.exit 6) (mkf 136 [(0,a0),(1,a1),(2,a2),(6,a6),(7,a7),(8,a8),(9,a9),(10,a10),(11,a11),(12,a12),(25,a25),(49,a49),(84,a84),(109,x8)]) S)
theorem e59_0:wp cf c59_0 (fkill (mkf 136 [(0,a0),(1,a1),(2,a2),(6,a6),(7,a7),(8,a8),(9,a9),(10,a10),(11,a11),(12,a12),(25,a25),(49,a49),(84,a84),(109,a109)]) []) S Q=s59_0 cf a0 a1 a2 a6 a7 a8 a9 a10 a11 a12 a25 a49 a84 a109 S Q:=wpS_of (by kernel_rfl)
def s59_r0 (cf:CallF) (a0 a1 a2 a6 a7 a8 a9 a10 a11 a12 a25 a49 a84 a109:D) (S:Store) (Q:QT):Prop:=
 W cf (.loop [] c59_0) (mkf 136 [(0,a0),(1,a1),(2,a2),(6,a6),(7,a7),(8,a8),(9,a9),(10,a10),(11,.top),(12,(.i .i64 0)),(25,a25),(49,a49),(84,.top),(109,a109)]) S (Qblk 6 Q)
theorem e59_r0:wp cf c59_r0 (mkf 136 [(0,a0),(1,a1),(2,a2),(6,a6),(7,a7),(8,a8),(9,a9),(10,a10),(11,a11),(12,a12),(25,a25),(49,a49),(84,a84),(109,a109)]) S Q=s59_r0 cf a0 a1 a2 a6 a7 a8 a9 a10 a11 a12 a25 a49 a84 a109 S Q:=wpS_of (by kernel_rfl)
def s59_r1 (cf:CallF) (a0 a1 a2 a6 a7 a8 a9 a10 a11 a12 a25 a49 a84 a109:D) (S:Store) (Q:QT):Prop:=
 OX (binD .add .num a9 (.i .i64 1)) fun x27=>Q .normal (mkf 136 [(0,a0),(1,a1),(2,a2),(6,a6),(7,a7),(8,a8),(9,x27),(10,.top),(11,a11),(12,.top),(25,a25),(49,a49),(84,a84),(109,.top)]) S
theorem e59_r1:wp cf c59_r1 (mkf 136 [(0,a0),(1,a1),(2,a2),(6,a6),(7,a7),(8,a8),(9,a9),(10,a10),(11,a11),(12,a12),(25,a25),(49,a49),(84,a84),(109,a109)]) S Q=s59_r1 cf a0 a1 a2 a6 a7 a8 a9 a10 a11 a12 a25 a49 a84 a109 S Q:=wpS_of (by kernel_rfl)
def s59_1 (cf:CallF) (a0 a1 a2 a6 a7 a8 a9 a10 a11 a12 a25 a49 a84 a109:D) (S:Store) (Q:QT):Prop:=
 OX (faD 3 a10) fun x28=>OX (ldD S 1 false x28) fun x29=>OX (lenD false x29) fun x30=>OX (binD .lss .num a11 x30) fun x31=>OX (gsel x31 true (some a7)) fun x32=>OX (gsel x31 true (some a1)) fun x33=>OX (gsel x31 true (binD .leq .num x32 x33)) fun x34=>OX (pickD x31 x34 (.b false)) fun x35=>WB x35
 (OX (faD 3 a10) fun x36=>OX (ldD S 1 false x36) fun x37=>OX (iaD 1 x37 a11) fun x38=>OX (ldD S 1 false x38) fun x39=>OX (binD .sub .num a1 a7) fun x40=>OX (binD .sub .num a2 (.i .i64 1)) fun x41=>OX (isoCall cf 59 [x39,x40,x41]) fun x42=>OX (binD .add .num a7 x42) fun x43=>OX (binD .add .num a11 (.i .i64 1)) fun x44=>Q .normal (mkf 136 [(0,a0),(1,a1),(2,a2),(6,a6),(7,x43),(8,a8),(9,a9),(10,a10),(11,x44),(12,a12),(25,a25),(49,a49),(84,.top),(109,a109)]) S)
 (Q (.exit 4) (mkf 136 [(0,a0),(1,a1),(2,a2),(6,a6),(7,a7),(8,a8),(9,a9),(10,a10),(11,a11),(12,a12),(25,a25),(49,a49),(84,x35),(109,a109)]) S)
theorem e59_1:wp cf c59_1 (fkill (mkf 136 [(0,a0),(1,a1),(2,a2),(6,a6),(7,a7),(8,a8),(9,a9),(10,a10),(11,a11),(12,a12),(25,a25),(49,a49),(84,a84),(109,a109)]) []) S Q=s59_1 cf a0 a1 a2 a6 a7 a8 a9 a10 a11 a12 a25 a49 a84 a109 S Q:=wpS_of (by kernel_rfl)
def s59_r2 (cf:CallF) (a0 a1 a2 a6 a7 a8 a9 a10 a11 a12 a25 a49 a84 a109:D) (S:Store) (Q:QT):Prop:=
 OX (binD .add .num a8 (.i .i64 1)) fun x45=>Q .normal (mkf 136 [(0,a0),(1,a1),(2,a2),(6,a6),(7,a7),(8,x45),(9,.top),(10,a10),(11,a11),(12,a12),(25,a25),(49,.top),(84,a84),(109,a109)]) S
theorem e59_r2:wp cf c59_r2 (mkf 136 [(0,a0),(1,a1),(2,a2),(6,a6),(7,a7),(8,a8),(9,a9),(10,a10),(11,a11),(12,a12),(25,a25),(49,a49),(84,a84),(109,a109)]) S Q=s59_r2 cf a0 a1 a2 a6 a7 a8 a9 a10 a11 a12 a25 a49 a84 a109 S Q:=wpS_of (by kernel_rfl)
def s59_2 (cf:CallF) (a0 a1 a2 a6 a7 a8 a9 a10 a11 a12 a25 a49 a84 a109:D) (S:Store) (Q:QT):Prop:=
 OX (iaD 2 a0 a8) fun x46=>OX (faD 1 x46) fun x47=>OX (ldD S 1 false x47) fun x48=>OX (lenD false x48) fun x49=>OX (binD .lss .num a9 x49) fun x50=>OX (gsel x50 true (some a7)) fun x51=>OX (gsel x50 true (some a1)) fun x52=>OX (gsel x50 true (binD .leq .num x51 x52)) fun x53=>OX (pickD x50 x53 (.b false)) fun x54=>WB x54
 (OX (iaD 2 a0 a8) fun x55=>OX (faD 1 x55) fun x56=>OX (ldD S 1 false x56) fun x57=>OX (iaD 11 x57 a9) fun x58=>OX (faD 0 x58) fun x59=>OX (ldD S 10 true x59) fun x60=>al [.i .i64 0,.i .i64 0,.i .i64 0,.sl 1 true [] .ro,.i .i64 0,.sl 4 true [] .ro,.i .i64 0,.i .i64 0,.i .i64 0,.s []] S fun x61 S62=>OX (stD S62 10 true x61 x60) fun S64=>OX (faD 5 x61) fun x65=>OX (ldD S64 1 false x65) fun x66=>OX (lenD false x66) fun x67=>OX (binD .add .num a7 x67) fun x68=>OX (faD 3 x61) fun x69=>OX (ldD S64 1 false x69) fun x70=>OX (lenD false x70) fun x71=>OX (binD .add .num x68 x71) fun x72=>OX (faD 7 x61) fun x73=>OX (faD 2 x73) fun x74=>OX (ldD S64 1 false x74) fun x75=>OX (lenD true x75) fun x76=>OX (binD .add .num x72 x76) fun x77=>W cf (.loop [] c59_1) (mkf 136 [(0,a0),(1,a1),(2,a2),(6,a6),(7,x77),(8,a8),(9,a9),(10,x61),(11,(.i .i64 0)),(12,a12),(25,a25),(49,.top),(84,a84),(109,a109)]) S64 (Qblk 4 (QS cf c59_r0 (Qblk 3 (QS cf c59_r1 Q)))))
 (Q (.exit 2) (mkf 136 [(0,a0),(1,a1),(2,a2),(6,a6),(7,a7),(8,a8),(9,a9),(10,a10),(11,a11),(12,a12),(25,a25),(49,x54),(84,a84),(109,a109)]) S)
theorem e59_2:wp cf c59_2 (fkill (mkf 136 [(0,a0),(1,a1),(2,a2),(6,a6),(7,a7),(8,a8),(9,a9),(10,a10),(11,a11),(12,a12),(25,a25),(49,a49),(84,a84),(109,a109)]) []) S Q=s59_2 cf a0 a1 a2 a6 a7 a8 a9 a10 a11 a12 a25 a49 a84 a109 S Q:=wpS_of (by kernel_rfl)
def s59_r3 (cf:CallF) (a0 a1 a2 a6 a7 a8 a9 a10 a11 a12 a25 a49 a84 a109:D) (S:Store) (Q:QT):Prop:=
 Q .ret (mkf 136 [(0,.top),(1,.top),(2,.top),(6,a7),(7,.top),(8,.top),(9,a9),(10,a10),(11,a11),(12,a12),(25,.top),(49,a49),(84,a84),(109,a109)]) S
theorem e59_r3:wp cf c59_r3 (mkf 136 [(0,a0),(1,a1),(2,a2),(6,a6),(7,a7),(8,a8),(9,a9),(10,a10),(11,a11),(12,a12),(25,a25),(49,a49),(84,a84),(109,a109)]) S Q=s59_r3 cf a0 a1 a2 a6 a7 a8 a9 a10 a11 a12 a25 a49 a84 a109 S Q:=wpS_of (by kernel_rfl)
def s59_3 (cf:CallF) (a0 a1 a2 a6 a7 a8 a9 a10 a11 a12 a25 a49 a84 a109:D) (S:Store) (Q:QT):Prop:=
 OX (lenD false a0) fun x78=>OX (binD .lss .num a8 x78) fun x79=>OX (gsel x79 true (some a7)) fun x80=>OX (gsel x79 true (some a1)) fun x81=>OX (gsel x79 true (binD .leq .num x80 x81)) fun x82=>OX (pickD x79 x82 (.b false)) fun x83=>WB x83
 (OX (binD .add .num a7 (.i .i64 1)) fun x84=>OX (iaD 2 a0 a8) fun x85=>OX (faD 1 x85) fun x86=>OX (ldD S 1 false x86) fun x87=>OX (lenD false x87) fun x88=>OX (binD .add .num x84 x88) fun x89=>W cf (.loop [] c59_2) (mkf 136 [(0,a0),(1,a1),(2,a2),(6,a6),(7,x89),(8,a8),(9,(.i .i64 0)),(10,a10),(11,a11),(12,a12),(25,.top),(49,a49),(84,a84),(109,a109)]) S (Qblk 2 (Qblk 1 (QS cf c59_r2 Q))))
 (Q (.exit 0) (mkf 136 [(0,a0),(1,a1),(2,a2),(6,a6),(7,a7),(8,a8),(9,a9),(10,a10),(11,a11),(12,a12),(25,x83),(49,a49),(84,a84),(109,a109)]) S)
theorem e59_3:wp cf c59_3 (fkill (mkf 136 [(0,a0),(1,a1),(2,a2),(6,a6),(7,a7),(8,a8),(9,a9),(10,a10),(11,a11),(12,a12),(25,a25),(49,a49),(84,a84),(109,a109)]) []) S Q=s59_3 cf a0 a1 a2 a6 a7 a8 a9 a10 a11 a12 a25 a49 a84 a109 S Q:=wpS_of (by kernel_rfl)
def s59 (cf:CallF) (a0 a1 a2:D) (S:Store) (Post:PT):Prop:=
 OX (binD .eql .num a2 (.i .i64 0)) fun x90=>WB x90
 (OX (binD .add .num a1 (.i .i64 1)) fun x91=>Post x91 S)
 (W cf (.loop [] c59_3) (mkf 136 [(0,a0),(1,a1),(2,a2),(6,.top),(7,(.i .i64 0)),(8,(.i .i64 0)),(9,.top),(10,.top),(11,.top),(12,.top),(25,.top),(49,.top),(84,.top),(109,.top)]) S (Qblk 0 (QS cf c59_r3 (FinK [.t 6] Post))))
theorem e59:wp cf c59 (frame0 d59 [a0,a1,a2]) S (FinK d59.res Post)=s59 cf a0 a1 a2 S Post:=wpS_of (by kernel_rfl)
theorem j59 (a0 a1 a2:D) (Post:D→Prop) (ha:noRefL (stripL [a0,a1,a2])=true) (hr:∀ r,Post r→noRef r=true) (h:s59 (call dp) (strip a0) (strip a1) (strip a2) [] fun d _=>Post (stripT d)):∃ r,isoCall (call dp) 59 [a0,a1,a2]=some r∧Post r:=iso_x (f:=d59) rfl ⟨rfl,by decide⟩ ha hr (by rw [←e59] at h;exact h)
def s60_r0 (cf:CallF) (a0 a2 a4 a10 a11 a12 a13 a40 a41 a42 a43:D) (S:Store) (Q:QT):Prop:=
 OX (binD .add .num a12 (.i .i64 1)) fun x1=>Q .normal (mkf 85 [(0,a0),(2,a2),(4,.top),(10,a10),(11,a11),(12,x1),(13,a13),(40,.top),(41,.top),(42,.top),(43,.top)]) S
theorem e60_r0:wp cf c60_r0 (mkf 85 [(0,a0),(2,a2),(4,a4),(10,a10),(11,a11),(12,a12),(13,a13),(40,a40),(41,a41),(42,a42),(43,a43)]) S Q=s60_r0 cf a0 a2 a4 a10 a11 a12 a13 a40 a41 a42 a43 S Q:=wpS_of (by kernel_rfl)
def s60_0 (cf:CallF) (a0 a2 a4 a10 a11 a12 a13 a40 a41 a42 a43:D) (S:Store) (Q:QT):Prop:=
 OX (binD .lss .num a42 a41) fun x2=>WB x2
 (OX (iaD 11 a40 a42) fun x3=>OX (ldD S 11 true x3) fun x4=>al [.i .i64 0,.i .i64 0,.i .i64 0,.sl 1 true [] .ro,.i .i64 0,.sl 4 true [] .ro,.i .i64 0,.i .i64 0,.i .i64 0,.s [],.i .i64 0] S fun x5 S6=>OX (stD S6 11 true x5 x4) fun S8=>OX (faD 10 x5) fun x9=>OX (ldD S8 1 false x9) fun x10=>OX (binD .lss .num x10 (.i .i64 1)) fun x11=>OX (gsel x11 false (faD 0 x5)) fun x12=>OX (gsel x11 false (ldD S8 10 true x12)) fun x13=>OX (gsel x11 false (isoCall cf 98 [x13])) fun x14=>OX (gsel x11 false (some x14)) fun x15=>OX (gsel x15 true (faD 10 x5)) fun x16=>OX (gsel x15 true (ldD S8 1 false x16)) fun x17=>OX (gsel x15 true (binD .neq .num x17 (.i .i64 1))) fun x18=>OX (gsel x11 false (pickD x15 x18 (.b false))) fun x19=>OX (pickD x11 (.b true) x19) fun x20=>OX (gsel x20 false (some a42)) fun x21=>OX (gsel x20 false (binD .gtr .num x21 (.i .i64 0))) fun x22=>OX (gsel x20 false (some x22)) fun x23=>OX (gsel x23 true (faD 1 a4)) fun x24=>OX (gsel x23 true (ldD S8 1 false x24)) fun x25=>OX (gsel x23 true (some a42)) fun x26=>OX (gsel x23 true (binD .sub .num x26 (.i .i64 1))) fun x27=>OX (gsel x23 true (iaD 11 x25 x27)) fun x28=>OX (gsel x23 true (faD 0 x28)) fun x29=>OX (gsel x23 true (ldD S8 10 true x29)) fun x30=>OX (gsel x23 true (faD 0 x5)) fun x31=>OX (gsel x23 true (ldD S8 10 true x31)) fun x32=>OX (gsel x23 true (isoCall cf 99 [x30,x32])) fun x33=>OX (gsel x23 true (binD .geq .num x33 (.i .i64 0))) fun x34=>OX (gsel x20 false (pickD x23 x34 (.b false))) fun x35=>OX (pickD x20 (.b true) x35) fun x36=>OX (gsel x36 false (faD 0 x5)) fun x37=>OX (gsel x36 false (ldD S8 10 true x37)) fun x38=>OX (gsel x36 false (isoCall cf 100 [x38])) fun x39=>OX (gsel x36 false (unD .not x39)) fun x40=>OX (pickD x36 (.b true) x40) fun x41=>WB x41
 (Q .ret (mkf 85 [(0,.top),(2,(.b false)),(4,.top),(10,.top),(11,.top),(12,.top),(13,a13),(40,.top),(41,.top),(42,.top),(43,.top)]) S8)
 (OX (binD .add .num a42 (.i .i64 1)) fun x42=>Q .normal (mkf 85 [(0,a0),(2,a2),(4,a4),(10,a10),(11,a11),(12,a12),(13,a13),(40,a40),(41,a41),(42,x42),(43,.top)]) S8))
 (Q (.exit 2) (mkf 85 [(0,a0),(2,a2),(4,a4),(10,a10),(11,a11),(12,a12),(13,a13),(40,a40),(41,a41),(42,a42),(43,x2)]) S)
theorem e60_0:wp cf c60_0 (fkill (mkf 85 [(0,a0),(2,a2),(4,a4),(10,a10),(11,a11),(12,a12),(13,a13),(40,a40),(41,a41),(42,a42),(43,a43)]) []) S Q=s60_0 cf a0 a2 a4 a10 a11 a12 a13 a40 a41 a42 a43 S Q:=wpS_of (by kernel_rfl)
def s60_r1 (cf:CallF) (a0 a2 a4 a10 a11 a12 a13 a40 a41 a42 a43:D) (S:Store) (Q:QT):Prop:=
 Q .ret (mkf 85 [(0,.top),(2,(.b true)),(4,a4),(10,.top),(11,.top),(12,.top),(13,.top),(40,a40),(41,a41),(42,a42),(43,a43)]) S
theorem e60_r1:wp cf c60_r1 (mkf 85 [(0,a0),(2,a2),(4,a4),(10,a10),(11,a11),(12,a12),(13,a13),(40,a40),(41,a41),(42,a42),(43,a43)]) S Q=s60_r1 cf a0 a2 a4 a10 a11 a12 a13 a40 a41 a42 a43 S Q:=wpS_of (by kernel_rfl)
def s60_1 (cf:CallF) (a0 a2 a4 a10 a11 a12 a13 a40 a41 a42 a43:D) (S:Store) (Q:QT):Prop:=
 OX (binD .lss .num a12 a11) fun x43=>WB x43
 (OX (iaD 2 a10 a12) fun x44=>OX (ldD S 2 true x44) fun x45=>al [.i .i64 0,.sl 11 true [] .ro] S fun x46 S47=>OX (stD S47 2 true x46 x45) fun S49=>OX (faD 0 x46) fun x50=>OX (ldD S49 1 false x50) fun x51=>OX (binD .lss .num x51 (.i .i64 1)) fun x52=>OX (gsel x52 false (faD 0 x46)) fun x53=>OX (gsel x52 false (ldD S49 1 false x53)) fun x54=>OX (gsel x52 false (binD .gtr .num x54 (.i .i64 1152921504606846976))) fun x55=>OX (pickD x52 (.b true) x55) fun x56=>OX (gsel x56 false (some a12)) fun x57=>OX (gsel x56 false (binD .gtr .num x57 (.i .i64 0))) fun x58=>OX (gsel x56 false (some x58)) fun x59=>OX (gsel x59 true (some a0)) fun x60=>OX (gsel x59 true (some a12)) fun x61=>OX (gsel x59 true (binD .sub .num x61 (.i .i64 1))) fun x62=>OX (gsel x59 true (iaD 2 x60 x62)) fun x63=>OX (gsel x59 true (ldD S49 2 true x63)) fun x64=>OX (gsel x59 true (ldD S49 2 true x46)) fun x65=>OX (gsel x59 true (isoCall cf 97 [x64,x65])) fun x66=>OX (gsel x59 true (binD .geq .num x66 (.i .i64 0))) fun x67=>OX (gsel x56 false (pickD x59 x67 (.b false))) fun x68=>OX (pickD x56 (.b true) x68) fun x69=>WB x69
 (Q .ret (mkf 85 [(0,.top),(2,(.b false)),(4,.top),(10,.top),(11,.top),(12,.top),(13,.top),(40,a40),(41,a41),(42,a42),(43,a43)]) S49)
 (OX (faD 1 x46) fun x70=>OX (ldD S49 1 false x70) fun x71=>OX (lenD false x71) fun x72=>W cf (.loop [] c60_0) (mkf 85 [(0,a0),(2,a2),(4,x46),(10,a10),(11,a11),(12,a12),(13,.top),(40,x71),(41,x72),(42,(.i .i64 0)),(43,a43)]) S49 (Qblk 2 (Qblk 1 (QS cf c60_r0 Q)))))
 (Q (.exit 0) (mkf 85 [(0,a0),(2,a2),(4,a4),(10,a10),(11,a11),(12,a12),(13,x43),(40,a40),(41,a41),(42,a42),(43,a43)]) S)
theorem e60_1:wp cf c60_1 (fkill (mkf 85 [(0,a0),(2,a2),(4,a4),(10,a10),(11,a11),(12,a12),(13,a13),(40,a40),(41,a41),(42,a42),(43,a43)]) []) S Q=s60_1 cf a0 a2 a4 a10 a11 a12 a13 a40 a41 a42 a43 S Q:=wpS_of (by kernel_rfl)
def s60 (cf:CallF) (a0:D) (S:Store) (Post:PT):Prop:=
 OX (isoCall cf 96 [a0]) fun x73=>OX (unD .not x73) fun x74=>WB x74
 (Post (.b false) S)
 (OX (lenD false a0) fun x75=>W cf (.loop [] c60_1) (mkf 85 [(0,a0),(2,.top),(4,.top),(10,a0),(11,x75),(12,(.i .i64 0)),(13,.top),(40,.top),(41,.top),(42,.top),(43,.top)]) S (Qblk 0 (QS cf c60_r1 (FinK [.t 2] Post))))
theorem e60:wp cf c60 (frame0 d60 [a0]) S (FinK d60.res Post)=s60 cf a0 S Post:=wpS_of (by kernel_rfl)
theorem i60 (a0:D) (r:D) (ha:noRefL (stripL [a0])=true) (hr:noRef r=true) (h:s60 (call dp) (strip a0) [] fun d _=>stripT d=r):isoCall (call dp) 60 [a0]=some r:=iso_s (f:=d60) rfl ⟨rfl,by decide⟩ ha hr (by rw [←e60] at h;exact h)
def s96 (cf:CallF) (a0:D) (S:Store) (Post:PT):Prop:=
 OX (lenD false a0) fun x1=>OX (binD .gtr .num x1 (.i .i64 512)) fun x2=>OX (gsel x2 false (some a0)) fun x3=>OX (gsel x2 false (isoCall cf 135 [x3])) fun x4=>OX (gsel x2 false (binD .gtr .num x4 (.i .i64 8))) fun x5=>OX (pickD x2 (.b true) x5) fun x6=>OX (gsel x6 false (some a0)) fun x7=>OX (gsel x6 false (isoCall cf 136 [x7])) fun x8=>OX (gsel x6 false (binD .gtr .num x8 (.i .i64 4096))) fun x9=>OX (pickD x6 (.b true) x9) fun x10=>WB x10
 (Post (.b false) S)
 (OX (isoCall cf 137 [a0,(.fn 138 [])]) fun x11=>OX (unD .not x11) fun x12=>Post x12 S)
theorem e96:wp cf c96 (frame0 d96 [a0]) S (FinK d96.res Post)=s96 cf a0 S Post:=wpS_of (by kernel_rfl)
theorem i96 (a0:D) (r:D) (ha:noRefL (stripL [a0])=true) (hr:noRef r=true) (h:s96 (call dp) (strip a0) [] fun d _=>stripT d=r):isoCall (call dp) 96 [a0]=some r:=iso_s (f:=d96) rfl ⟨rfl,by decide⟩ ha hr (by rw [←e96] at h;exact h)
def s138 (cf:CallF) (a0:D) (S:Store) (Post:PT):Prop:=
 bxx 2 true a0 S fun x1 S2=>OX (faD 1 x1) fun x3=>OX (ldD S2 1 false x3) fun x4=>OX (lenD false x4) fun x5=>OX (binD .gtr .num x5 (.i .i64 64)) fun x6=>OX (gsel x6 false (faD 1 x1)) fun x7=>OX (gsel x6 false (ldD S2 1 false x7)) fun x8=>OX (gsel x6 false (isoCall cf 139 [x8,(.fn 140 [])])) fun x9=>OX (pickD x6 (.b true) x9) fun x10=>Post x10 S2
theorem e138:wp cf c138 (frame0 d138 [a0]) S (FinK d138.res Post)=s138 cf a0 S Post:=wpS_of (by kernel_rfl)
theorem i138 (a0:D) (r:D) (ha:noRefL (stripL [a0])=true) (hr:noRef r=true) (h:s138 (call dp) (strip a0) [] fun d _=>stripT d=r):isoCall (call dp) 138 [a0]=some r:=iso_s (f:=d138) rfl ⟨rfl,by decide⟩ ha hr (by rw [←e138] at h;exact h)
def s140 (cf:CallF) (a0:D) (S:Store) (Post:PT):Prop:=
 bxx 11 true a0 S fun x1 S2=>OX (faD 10 x1) fun x3=>OX (ldD S2 1 false x3) fun x4=>OX (binD .gtr .num x4 (.i .i64 64)) fun x5=>OX (gsel x5 false (faD 0 x1)) fun x6=>OX (gsel x5 false (faD 5 x6)) fun x7=>OX (gsel x5 false (ldD S2 1 false x7)) fun x8=>OX (gsel x5 false (lenD false x8)) fun x9=>OX (gsel x5 false (binD .gtr .num x9 (.i .i64 1024))) fun x10=>OX (pickD x5 (.b true) x10) fun x11=>Post x11 S2
theorem e140:wp cf c140 (frame0 d140 [a0]) S (FinK d140.res Post)=s140 cf a0 S Post:=wpS_of (by kernel_rfl)
theorem i140 (a0:D) (r:D) (ha:noRefL (stripL [a0])=true) (hr:noRef r=true) (h:s140 (call dp) (strip a0) [] fun d _=>stripT d=r):isoCall (call dp) 140 [a0]=some r:=iso_s (f:=d140) rfl ⟨rfl,by decide⟩ ha hr (by rw [←e140] at h;exact h)
def s135_r0 (cf:CallF) (a2 a3 a7 a8 a13 a14 a15 a16 a20 a21 a22 a23 a29 a32 a33 a34 a35 a45 a46 a47 a48:D) (S:Store) (Q:QT):Prop:=
 OX (binD .add .num (.i .i64 1) a8) fun x1=>OX (mxD a3 x1) fun x2=>Q .normal (mkf 64 [(2,a2),(3,x2),(7,a7),(8,.top),(13,a13),(14,a14),(15,a15),(16,a16),(20,a20),(21,a21),(22,a22),(23,a23),(29,a29),(32,a32),(33,a33),(34,a34),(35,a35),(45,.top),(46,.top),(47,.top),(48,.top)]) S
theorem e135_r0:wp cf c135_r0 (mkf 64 [(2,a2),(3,a3),(7,a7),(8,a8),(13,a13),(14,a14),(15,a15),(16,a16),(20,a20),(21,a21),(22,a22),(23,a23),(29,a29),(32,a32),(33,a33),(34,a34),(35,a35),(45,a45),(46,a46),(47,a47),(48,a48)]) S Q=s135_r0 cf a2 a3 a7 a8 a13 a14 a15 a16 a20 a21 a22 a23 a29 a32 a33 a34 a35 a45 a46 a47 a48 S Q:=wpS_of (by kernel_rfl)
def s135_0 (cf:CallF) (a2 a3 a7 a8 a13 a14 a15 a16 a20 a21 a22 a23 a29 a32 a33 a34 a35 a45 a46 a47 a48:D) (S:Store) (Q:QT):Prop:=
 OX (binD .lss .num a47 a46) fun x3=>WB x3
 (OX (iaD 4 a45 a47) fun x4=>OX (ldD S 4 true x4) fun x5=>al [.i .i64 0,.i .i64 0,.s [],.sl 2 true [] .ro] S fun x6 S7=>OX (stD S7 4 true x6 x5) fun S9=>OX (faD 3 x6) fun x10=>OX (ldD S9 1 false x10) fun x11=>OX (isoCall cf 135 [x11]) fun x12=>OX (mxD a8 x12) fun x13=>OX (binD .add .num a47 (.i .i64 1)) fun x14=>Q .normal (mkf 64 [(2,a2),(3,a3),(7,a7),(8,x13),(13,a13),(14,a14),(15,a15),(16,a16),(20,a20),(21,a21),(22,a22),(23,a23),(29,a29),(32,a32),(33,a33),(34,a34),(35,a35),(45,a45),(46,a46),(47,x14),(48,.top)]) S9)
 (Q (.exit 6) (mkf 64 [(2,a2),(3,a3),(7,a7),(8,a8),(13,a13),(14,a14),(15,a15),(16,a16),(20,a20),(21,a21),(22,a22),(23,a23),(29,a29),(32,a32),(33,a33),(34,a34),(35,a35),(45,a45),(46,a46),(47,a47),(48,x3)]) S)
theorem e135_0:wp cf c135_0 (fkill (mkf 64 [(2,a2),(3,a3),(7,a7),(8,a8),(13,a13),(14,a14),(15,a15),(16,a16),(20,a20),(21,a21),(22,a22),(23,a23),(29,a29),(32,a32),(33,a33),(34,a34),(35,a35),(45,a45),(46,a46),(47,a47),(48,a48)]) []) S Q=s135_0 cf a2 a3 a7 a8 a13 a14 a15 a16 a20 a21 a22 a23 a29 a32 a33 a34 a35 a45 a46 a47 a48 S Q:=wpS_of (by kernel_rfl)
def s135_r1 (cf:CallF) (a2 a3 a7 a8 a13 a14 a15 a16 a20 a21 a22 a23 a29 a32 a33 a34 a35 a45 a46 a47 a48:D) (S:Store) (Q:QT):Prop:=
 OX (faD 0 a7) fun x15=>OX (faD 5 x15) fun x16=>OX (ldD S 1 false x16) fun x17=>OX (lenD false x17) fun x18=>W cf (.loop [] c135_0) (mkf 64 [(2,a2),(3,a3),(7,.top),(8,a8),(13,a13),(14,a14),(15,a15),(16,a16),(20,a20),(21,a21),(22,a22),(23,a23),(29,a29),(32,.top),(33,.top),(34,.top),(35,.top),(45,x17),(46,x18),(47,(.i .i64 0)),(48,a48)]) S (Qblk 6 (QS cf c135_r0 Q))
theorem e135_r1:wp cf c135_r1 (mkf 64 [(2,a2),(3,a3),(7,a7),(8,a8),(13,a13),(14,a14),(15,a15),(16,a16),(20,a20),(21,a21),(22,a22),(23,a23),(29,a29),(32,a32),(33,a33),(34,a34),(35,a35),(45,a45),(46,a46),(47,a47),(48,a48)]) S Q=s135_r1 cf a2 a3 a7 a8 a13 a14 a15 a16 a20 a21 a22 a23 a29 a32 a33 a34 a35 a45 a46 a47 a48 S Q:=wpS_of (by kernel_rfl)
def s135_1 (cf:CallF) (a2 a3 a7 a8 a13 a14 a15 a16 a20 a21 a22 a23 a29 a32 a33 a34 a35 a45 a46 a47 a48:D) (S:Store) (Q:QT):Prop:=
 OX (binD .lss .num a34 a33) fun x19=>WB x19
 (OX (iaD 1 a32 a34) fun x20=>OX (ldD S 1 false x20) fun x21=>OX (isoCall cf 135 [x21]) fun x22=>OX (mxD a8 x22) fun x23=>OX (binD .add .num a34 (.i .i64 1)) fun x24=>Q .normal (mkf 64 [(2,a2),(3,a3),(7,a7),(8,x23),(13,a13),(14,a14),(15,a15),(16,a16),(20,a20),(21,a21),(22,a22),(23,a23),(29,a29),(32,a32),(33,a33),(34,x24),(35,.top),(45,a45),(46,a46),(47,a47),(48,a48)]) S)
 (Q (.exit 4) (mkf 64 [(2,a2),(3,a3),(7,a7),(8,a8),(13,a13),(14,a14),(15,a15),(16,a16),(20,a20),(21,a21),(22,a22),(23,a23),(29,a29),(32,a32),(33,a33),(34,a34),(35,x19),(45,a45),(46,a46),(47,a47),(48,a48)]) S)
theorem e135_1:wp cf c135_1 (fkill (mkf 64 [(2,a2),(3,a3),(7,a7),(8,a8),(13,a13),(14,a14),(15,a15),(16,a16),(20,a20),(21,a21),(22,a22),(23,a23),(29,a29),(32,a32),(33,a33),(34,a34),(35,a35),(45,a45),(46,a46),(47,a47),(48,a48)]) []) S Q=s135_1 cf a2 a3 a7 a8 a13 a14 a15 a16 a20 a21 a22 a23 a29 a32 a33 a34 a35 a45 a46 a47 a48 S Q:=wpS_of (by kernel_rfl)
def s135_r2 (cf:CallF) (a2 a3 a7 a8 a13 a14 a15 a16 a20 a21 a22 a23 a29 a32 a33 a34 a35 a45 a46 a47 a48:D) (S:Store) (Q:QT):Prop:=
 OX (binD .add .num a22 (.i .i64 1)) fun x25=>Q .normal (mkf 64 [(2,a2),(3,a3),(7,.top),(8,a8),(13,a13),(14,a14),(15,a15),(16,a16),(20,a20),(21,a21),(22,x25),(23,a23),(29,.top),(32,a32),(33,a33),(34,a34),(35,a35),(45,a45),(46,a46),(47,a47),(48,a48)]) S
theorem e135_r2:wp cf c135_r2 (mkf 64 [(2,a2),(3,a3),(7,a7),(8,a8),(13,a13),(14,a14),(15,a15),(16,a16),(20,a20),(21,a21),(22,a22),(23,a23),(29,a29),(32,a32),(33,a33),(34,a34),(35,a35),(45,a45),(46,a46),(47,a47),(48,a48)]) S Q=s135_r2 cf a2 a3 a7 a8 a13 a14 a15 a16 a20 a21 a22 a23 a29 a32 a33 a34 a35 a45 a46 a47 a48 S Q:=wpS_of (by kernel_rfl)
def s135_r3 (cf:CallF) (a2 a3 a7 a8 a13 a14 a15 a16 a20 a21 a22 a23 a29 a32 a33 a34 a35 a45 a46 a47 a48:D) (S:Store) (Q:QT):Prop:=
 OX (binD .add .num a15 (.i .i64 1)) fun x26=>Q .normal (mkf 64 [(2,a2),(3,a3),(7,a7),(8,a8),(13,a13),(14,a14),(15,x26),(16,a16),(20,.top),(21,.top),(22,.top),(23,.top),(29,a29),(32,a32),(33,a33),(34,a34),(35,a35),(45,a45),(46,a46),(47,a47),(48,a48)]) S
theorem e135_r3:wp cf c135_r3 (mkf 64 [(2,a2),(3,a3),(7,a7),(8,a8),(13,a13),(14,a14),(15,a15),(16,a16),(20,a20),(21,a21),(22,a22),(23,a23),(29,a29),(32,a32),(33,a33),(34,a34),(35,a35),(45,a45),(46,a46),(47,a47),(48,a48)]) S Q=s135_r3 cf a2 a3 a7 a8 a13 a14 a15 a16 a20 a21 a22 a23 a29 a32 a33 a34 a35 a45 a46 a47 a48 S Q:=wpS_of (by kernel_rfl)
def s135_2 (cf:CallF) (a2 a3 a7 a8 a13 a14 a15 a16 a20 a21 a22 a23 a29 a32 a33 a34 a35 a45 a46 a47 a48:D) (S:Store) (Q:QT):Prop:=
 OX (binD .lss .num a22 a21) fun x27=>WB x27
 (OX (iaD 11 a20 a22) fun x28=>OX (ldD S 11 true x28) fun x29=>al [.i .i64 0,.i .i64 0,.i .i64 0,.sl 1 true [] .ro,.i .i64 0,.sl 4 true [] .ro,.i .i64 0,.i .i64 0,.i .i64 0,.s [],.i .i64 0] S fun x30 S31=>OX (stD S31 11 true x30 x29) fun S33=>OX (faD 0 x30) fun x34=>OX (faD 0 x34) fun x35=>OX (ldD S33 1 false x35) fun x36=>OX (binD .eql .num x36 (.i .i64 0)) fun x37=>WB x37
 (s135_r2 cf a2 a3 x30 a8 a13 a14 a15 a16 a20 a21 a22 D.top x37 a32 a33 a34 a35 a45 a46 a47 a48 S33 Q)
 (OX (faD 0 x30) fun x38=>OX (faD 3 x38) fun x39=>OX (ldD S33 1 false x39) fun x40=>OX (lenD false x40) fun x41=>W cf (.loop [] c135_1) (mkf 64 [(2,a2),(3,a3),(7,x30),(8,(.i .i64 0)),(13,a13),(14,a14),(15,a15),(16,a16),(20,a20),(21,a21),(22,a22),(23,.top),(29,.top),(32,x40),(33,x41),(34,(.i .i64 0)),(35,a35),(45,a45),(46,a46),(47,a47),(48,a48)]) S33 (Qblk 4 (QS cf c135_r1 (Qblk 3 (QS cf c135_r2 Q))))))
 (Q (.exit 2) (mkf 64 [(2,a2),(3,a3),(7,a7),(8,a8),(13,a13),(14,a14),(15,a15),(16,a16),(20,a20),(21,a21),(22,a22),(23,x27),(29,a29),(32,a32),(33,a33),(34,a34),(35,a35),(45,a45),(46,a46),(47,a47),(48,a48)]) S)
theorem e135_2:wp cf c135_2 (fkill (mkf 64 [(2,a2),(3,a3),(7,a7),(8,a8),(13,a13),(14,a14),(15,a15),(16,a16),(20,a20),(21,a21),(22,a22),(23,a23),(29,a29),(32,a32),(33,a33),(34,a34),(35,a35),(45,a45),(46,a46),(47,a47),(48,a48)]) []) S Q=s135_2 cf a2 a3 a7 a8 a13 a14 a15 a16 a20 a21 a22 a23 a29 a32 a33 a34 a35 a45 a46 a47 a48 S Q:=wpS_of (by kernel_rfl)
def s135_r4 (cf:CallF) (a2 a3 a7 a8 a13 a14 a15 a16 a20 a21 a22 a23 a29 a32 a33 a34 a35 a45 a46 a47 a48:D) (S:Store) (Q:QT):Prop:=
 Q .ret (mkf 64 [(2,a3),(3,.top),(7,a7),(8,a8),(13,.top),(14,.top),(15,.top),(16,.top),(20,a20),(21,a21),(22,a22),(23,a23),(29,a29),(32,a32),(33,a33),(34,a34),(35,a35),(45,a45),(46,a46),(47,a47),(48,a48)]) S
theorem e135_r4:wp cf c135_r4 (mkf 64 [(2,a2),(3,a3),(7,a7),(8,a8),(13,a13),(14,a14),(15,a15),(16,a16),(20,a20),(21,a21),(22,a22),(23,a23),(29,a29),(32,a32),(33,a33),(34,a34),(35,a35),(45,a45),(46,a46),(47,a47),(48,a48)]) S Q=s135_r4 cf a2 a3 a7 a8 a13 a14 a15 a16 a20 a21 a22 a23 a29 a32 a33 a34 a35 a45 a46 a47 a48 S Q:=wpS_of (by kernel_rfl)
def s135_3 (cf:CallF) (a2 a3 a7 a8 a13 a14 a15 a16 a20 a21 a22 a23 a29 a32 a33 a34 a35 a45 a46 a47 a48:D) (S:Store) (Q:QT):Prop:=
 OX (binD .lss .num a15 a14) fun x42=>WB x42
 (OX (iaD 2 a13 a15) fun x43=>OX (ldD S 2 true x43) fun x44=>al [.i .i64 0,.sl 11 true [] .ro] S fun x45 S46=>OX (stD S46 2 true x45 x44) fun S48=>OX (faD 1 x45) fun x49=>OX (ldD S48 1 false x49) fun x50=>OX (lenD false x50) fun x51=>W cf (.loop [] c135_2) (mkf 64 [(2,a2),(3,a3),(7,a7),(8,a8),(13,a13),(14,a14),(15,a15),(16,.top),(20,x50),(21,x51),(22,(.i .i64 0)),(23,a23),(29,a29),(32,a32),(33,a33),(34,a34),(35,a35),(45,a45),(46,a46),(47,a47),(48,a48)]) S48 (Qblk 2 (Qblk 1 (QS cf c135_r3 Q))))
 (Q (.exit 0) (mkf 64 [(2,a2),(3,a3),(7,a7),(8,a8),(13,a13),(14,a14),(15,a15),(16,x42),(20,a20),(21,a21),(22,a22),(23,a23),(29,a29),(32,a32),(33,a33),(34,a34),(35,a35),(45,a45),(46,a46),(47,a47),(48,a48)]) S)
theorem e135_3:wp cf c135_3 (fkill (mkf 64 [(2,a2),(3,a3),(7,a7),(8,a8),(13,a13),(14,a14),(15,a15),(16,a16),(20,a20),(21,a21),(22,a22),(23,a23),(29,a29),(32,a32),(33,a33),(34,a34),(35,a35),(45,a45),(46,a46),(47,a47),(48,a48)]) []) S Q=s135_3 cf a2 a3 a7 a8 a13 a14 a15 a16 a20 a21 a22 a23 a29 a32 a33 a34 a35 a45 a46 a47 a48 S Q:=wpS_of (by kernel_rfl)
def s135 (cf:CallF) (a0:D) (S:Store) (Post:PT):Prop:=
 OX (lenD false a0) fun x52=>W cf (.loop [] c135_3) (mkf 64 [(2,.top),(3,(.i .i64 0)),(7,.top),(8,.top),(13,a0),(14,x52),(15,(.i .i64 0)),(16,.top),(20,.top),(21,.top),(22,.top),(23,.top),(29,.top),(32,.top),(33,.top),(34,.top),(35,.top),(45,.top),(46,.top),(47,.top),(48,.top)]) S (Qblk 0 (QS cf c135_r4 (FinK [.t 2] Post)))
theorem e135:wp cf c135 (frame0 d135 [a0]) S (FinK d135.res Post)=s135 cf a0 S Post:=wpS_of (by kernel_rfl)
theorem i135 (a0:D) (r:D) (ha:noRefL (stripL [a0])=true) (hr:noRef r=true) (h:s135 (call dp) (strip a0) [] fun d _=>stripT d=r):isoCall (call dp) 135 [a0]=some r:=iso_s (f:=d135) rfl ⟨rfl,by decide⟩ ha hr (by rw [←e135] at h;exact h)
theorem j135 (a0:D) (Post:D→Prop) (ha:noRefL (stripL [a0])=true) (hr:∀ r,Post r→noRef r=true) (h:s135 (call dp) (strip a0) [] fun d _=>Post (stripT d)):∃ r,isoCall (call dp) 135 [a0]=some r∧Post r:=iso_x (f:=d135) rfl ⟨rfl,by decide⟩ ha hr (by rw [←e135] at h;exact h)
def s136_0 (cf:CallF) (a2 a3 a7 a12 a13 a14 a15 a25 a26 a27 a28 a33 a34 a35 a36 a46 a47 a48 a49:D) (S:Store) (Q:QT):Prop:=
 OX (binD .lss .num a48 a47) fun x1=>WB x1
 (OX (iaD 4 a46 a48) fun x2=>OX (ldD S 4 true x2) fun x3=>al [.i .i64 0,.i .i64 0,.s [],.sl 2 true [] .ro] S fun x4 S5=>OX (stD S5 4 true x4 x3) fun S7=>OX (faD 3 x4) fun x8=>OX (ldD S7 1 false x8) fun x9=>OX (isoCall cf 136 [x9]) fun x10=>OX (binD .add .num (.i .i64 1) x10) fun x11=>OX (binD .add .num a3 x11) fun x12=>OX (binD .add .num a48 (.i .i64 1)) fun x13=>Q .normal (mkf 62 [(2,a2),(3,x12),(7,a7),(12,a12),(13,a13),(14,a14),(15,a15),(25,a25),(26,a26),(27,a27),(28,a28),(33,a33),(34,a34),(35,a35),(36,a36),(46,a46),(47,a47),(48,x13),(49,.top)]) S7)
 (Q (.exit 6) (mkf 62 [(2,a2),(3,a3),(7,a7),(12,a12),(13,a13),(14,a14),(15,a15),(25,a25),(26,a26),(27,a27),(28,a28),(33,a33),(34,a34),(35,a35),(36,a36),(46,a46),(47,a47),(48,a48),(49,x1)]) S)
theorem e136_0:wp cf c136_0 (fkill (mkf 62 [(2,a2),(3,a3),(7,a7),(12,a12),(13,a13),(14,a14),(15,a15),(25,a25),(26,a26),(27,a27),(28,a28),(33,a33),(34,a34),(35,a35),(36,a36),(46,a46),(47,a47),(48,a48),(49,a49)]) []) S Q=s136_0 cf a2 a3 a7 a12 a13 a14 a15 a25 a26 a27 a28 a33 a34 a35 a36 a46 a47 a48 a49 S Q:=wpS_of (by kernel_rfl)
def s136_r0 (cf:CallF) (a2 a3 a7 a12 a13 a14 a15 a25 a26 a27 a28 a33 a34 a35 a36 a46 a47 a48 a49:D) (S:Store) (Q:QT):Prop:=
 OX (faD 0 a7) fun x14=>OX (faD 5 x14) fun x15=>OX (ldD S 1 false x15) fun x16=>OX (lenD false x16) fun x17=>W cf (.loop [] c136_0) (mkf 62 [(2,a2),(3,a3),(7,.top),(12,a12),(13,a13),(14,a14),(15,a15),(25,a25),(26,a26),(27,a27),(28,a28),(33,.top),(34,.top),(35,.top),(36,.top),(46,x16),(47,x17),(48,(.i .i64 0)),(49,a49)]) S (Qblk 6 Q)
theorem e136_r0:wp cf c136_r0 (mkf 62 [(2,a2),(3,a3),(7,a7),(12,a12),(13,a13),(14,a14),(15,a15),(25,a25),(26,a26),(27,a27),(28,a28),(33,a33),(34,a34),(35,a35),(36,a36),(46,a46),(47,a47),(48,a48),(49,a49)]) S Q=s136_r0 cf a2 a3 a7 a12 a13 a14 a15 a25 a26 a27 a28 a33 a34 a35 a36 a46 a47 a48 a49 S Q:=wpS_of (by kernel_rfl)
def s136_r1 (cf:CallF) (a2 a3 a7 a12 a13 a14 a15 a25 a26 a27 a28 a33 a34 a35 a36 a46 a47 a48 a49:D) (S:Store) (Q:QT):Prop:=
 OX (binD .add .num a27 (.i .i64 1)) fun x18=>Q .normal (mkf 62 [(2,a2),(3,a3),(7,a7),(12,a12),(13,a13),(14,a14),(15,a15),(25,a25),(26,a26),(27,x18),(28,a28),(33,a33),(34,a34),(35,a35),(36,a36),(46,.top),(47,.top),(48,.top),(49,.top)]) S
theorem e136_r1:wp cf c136_r1 (mkf 62 [(2,a2),(3,a3),(7,a7),(12,a12),(13,a13),(14,a14),(15,a15),(25,a25),(26,a26),(27,a27),(28,a28),(33,a33),(34,a34),(35,a35),(36,a36),(46,a46),(47,a47),(48,a48),(49,a49)]) S Q=s136_r1 cf a2 a3 a7 a12 a13 a14 a15 a25 a26 a27 a28 a33 a34 a35 a36 a46 a47 a48 a49 S Q:=wpS_of (by kernel_rfl)
def s136_1 (cf:CallF) (a2 a3 a7 a12 a13 a14 a15 a25 a26 a27 a28 a33 a34 a35 a36 a46 a47 a48 a49:D) (S:Store) (Q:QT):Prop:=
 OX (binD .lss .num a35 a34) fun x19=>WB x19
 (OX (iaD 1 a33 a35) fun x20=>OX (ldD S 1 false x20) fun x21=>OX (isoCall cf 136 [x21]) fun x22=>OX (binD .add .num a3 x22) fun x23=>OX (binD .add .num a35 (.i .i64 1)) fun x24=>Q .normal (mkf 62 [(2,a2),(3,x23),(7,a7),(12,a12),(13,a13),(14,a14),(15,a15),(25,a25),(26,a26),(27,a27),(28,a28),(33,a33),(34,a34),(35,x24),(36,.top),(46,a46),(47,a47),(48,a48),(49,a49)]) S)
 (Q (.exit 4) (mkf 62 [(2,a2),(3,a3),(7,a7),(12,a12),(13,a13),(14,a14),(15,a15),(25,a25),(26,a26),(27,a27),(28,a28),(33,a33),(34,a34),(35,a35),(36,x19),(46,a46),(47,a47),(48,a48),(49,a49)]) S)
theorem e136_1:wp cf c136_1 (fkill (mkf 62 [(2,a2),(3,a3),(7,a7),(12,a12),(13,a13),(14,a14),(15,a15),(25,a25),(26,a26),(27,a27),(28,a28),(33,a33),(34,a34),(35,a35),(36,a36),(46,a46),(47,a47),(48,a48),(49,a49)]) []) S Q=s136_1 cf a2 a3 a7 a12 a13 a14 a15 a25 a26 a27 a28 a33 a34 a35 a36 a46 a47 a48 a49 S Q:=wpS_of (by kernel_rfl)
def s136_r2 (cf:CallF) (a2 a3 a7 a12 a13 a14 a15 a25 a26 a27 a28 a33 a34 a35 a36 a46 a47 a48 a49:D) (S:Store) (Q:QT):Prop:=
 OX (binD .add .num a14 (.i .i64 1)) fun x25=>Q .normal (mkf 62 [(2,a2),(3,a3),(7,a7),(12,a12),(13,a13),(14,x25),(15,a15),(25,.top),(26,.top),(27,.top),(28,.top),(33,a33),(34,a34),(35,a35),(36,a36),(46,a46),(47,a47),(48,a48),(49,a49)]) S
theorem e136_r2:wp cf c136_r2 (mkf 62 [(2,a2),(3,a3),(7,a7),(12,a12),(13,a13),(14,a14),(15,a15),(25,a25),(26,a26),(27,a27),(28,a28),(33,a33),(34,a34),(35,a35),(36,a36),(46,a46),(47,a47),(48,a48),(49,a49)]) S Q=s136_r2 cf a2 a3 a7 a12 a13 a14 a15 a25 a26 a27 a28 a33 a34 a35 a36 a46 a47 a48 a49 S Q:=wpS_of (by kernel_rfl)
def s136_2 (cf:CallF) (a2 a3 a7 a12 a13 a14 a15 a25 a26 a27 a28 a33 a34 a35 a36 a46 a47 a48 a49:D) (S:Store) (Q:QT):Prop:=
 OX (binD .lss .num a27 a26) fun x26=>WB x26
 (OX (iaD 11 a25 a27) fun x27=>OX (ldD S 11 true x27) fun x28=>al [.i .i64 0,.i .i64 0,.i .i64 0,.sl 1 true [] .ro,.i .i64 0,.sl 4 true [] .ro,.i .i64 0,.i .i64 0,.i .i64 0,.s [],.i .i64 0] S fun x29 S30=>OX (stD S30 11 true x29 x28) fun S32=>OX (faD 0 x29) fun x33=>OX (faD 3 x33) fun x34=>OX (ldD S32 1 false x34) fun x35=>OX (lenD false x35) fun x36=>W cf (.loop [] c136_1) (mkf 62 [(2,a2),(3,a3),(7,x29),(12,a12),(13,a13),(14,a14),(15,a15),(25,a25),(26,a26),(27,a27),(28,.top),(33,x35),(34,x36),(35,(.i .i64 0)),(36,a36),(46,a46),(47,a47),(48,a48),(49,a49)]) S32 (Qblk 4 (QS cf c136_r0 (Qblk 3 (QS cf c136_r1 Q)))))
 (Q (.exit 2) (mkf 62 [(2,a2),(3,a3),(7,a7),(12,a12),(13,a13),(14,a14),(15,a15),(25,a25),(26,a26),(27,a27),(28,x26),(33,a33),(34,a34),(35,a35),(36,a36),(46,a46),(47,a47),(48,a48),(49,a49)]) S)
theorem e136_2:wp cf c136_2 (fkill (mkf 62 [(2,a2),(3,a3),(7,a7),(12,a12),(13,a13),(14,a14),(15,a15),(25,a25),(26,a26),(27,a27),(28,a28),(33,a33),(34,a34),(35,a35),(36,a36),(46,a46),(47,a47),(48,a48),(49,a49)]) []) S Q=s136_2 cf a2 a3 a7 a12 a13 a14 a15 a25 a26 a27 a28 a33 a34 a35 a36 a46 a47 a48 a49 S Q:=wpS_of (by kernel_rfl)
def s136_r3 (cf:CallF) (a2 a3 a7 a12 a13 a14 a15 a25 a26 a27 a28 a33 a34 a35 a36 a46 a47 a48 a49:D) (S:Store) (Q:QT):Prop:=
 Q .ret (mkf 62 [(2,a3),(3,.top),(7,a7),(12,.top),(13,.top),(14,.top),(15,.top),(25,a25),(26,a26),(27,a27),(28,a28),(33,a33),(34,a34),(35,a35),(36,a36),(46,a46),(47,a47),(48,a48),(49,a49)]) S
theorem e136_r3:wp cf c136_r3 (mkf 62 [(2,a2),(3,a3),(7,a7),(12,a12),(13,a13),(14,a14),(15,a15),(25,a25),(26,a26),(27,a27),(28,a28),(33,a33),(34,a34),(35,a35),(36,a36),(46,a46),(47,a47),(48,a48),(49,a49)]) S Q=s136_r3 cf a2 a3 a7 a12 a13 a14 a15 a25 a26 a27 a28 a33 a34 a35 a36 a46 a47 a48 a49 S Q:=wpS_of (by kernel_rfl)
def s136_3 (cf:CallF) (a2 a3 a7 a12 a13 a14 a15 a25 a26 a27 a28 a33 a34 a35 a36 a46 a47 a48 a49:D) (S:Store) (Q:QT):Prop:=
 OX (binD .lss .num a14 a13) fun x37=>WB x37
 (OX (iaD 2 a12 a14) fun x38=>OX (ldD S 2 true x38) fun x39=>al [.i .i64 0,.sl 11 true [] .ro] S fun x40 S41=>OX (stD S41 2 true x40 x39) fun S43=>OX (faD 1 x40) fun x44=>OX (ldD S43 1 false x44) fun x45=>OX (lenD false x45) fun x46=>OX (binD .add .num (.i .i64 1) x46) fun x47=>OX (binD .add .num a3 x47) fun x48=>OX (faD 1 x40) fun x49=>OX (ldD S43 1 false x49) fun x50=>OX (lenD false x50) fun x51=>W cf (.loop [] c136_2) (mkf 62 [(2,a2),(3,x48),(7,a7),(12,a12),(13,a13),(14,a14),(15,.top),(25,x50),(26,x51),(27,(.i .i64 0)),(28,a28),(33,a33),(34,a34),(35,a35),(36,a36),(46,a46),(47,a47),(48,a48),(49,a49)]) S43 (Qblk 2 (Qblk 1 (QS cf c136_r2 Q))))
 (Q (.exit 0) (mkf 62 [(2,a2),(3,a3),(7,a7),(12,a12),(13,a13),(14,a14),(15,x37),(25,a25),(26,a26),(27,a27),(28,a28),(33,a33),(34,a34),(35,a35),(36,a36),(46,a46),(47,a47),(48,a48),(49,a49)]) S)
theorem e136_3:wp cf c136_3 (fkill (mkf 62 [(2,a2),(3,a3),(7,a7),(12,a12),(13,a13),(14,a14),(15,a15),(25,a25),(26,a26),(27,a27),(28,a28),(33,a33),(34,a34),(35,a35),(36,a36),(46,a46),(47,a47),(48,a48),(49,a49)]) []) S Q=s136_3 cf a2 a3 a7 a12 a13 a14 a15 a25 a26 a27 a28 a33 a34 a35 a36 a46 a47 a48 a49 S Q:=wpS_of (by kernel_rfl)
def s136 (cf:CallF) (a0:D) (S:Store) (Post:PT):Prop:=
 OX (lenD false a0) fun x52=>W cf (.loop [] c136_3) (mkf 62 [(2,.top),(3,(.i .i64 0)),(7,.top),(12,a0),(13,x52),(14,(.i .i64 0)),(15,.top),(25,.top),(26,.top),(27,.top),(28,.top),(33,.top),(34,.top),(35,.top),(36,.top),(46,.top),(47,.top),(48,.top),(49,.top)]) S (Qblk 0 (QS cf c136_r3 (FinK [.t 2] Post)))
theorem e136:wp cf c136 (frame0 d136 [a0]) S (FinK d136.res Post)=s136 cf a0 S Post:=wpS_of (by kernel_rfl)
theorem i136 (a0:D) (r:D) (ha:noRefL (stripL [a0])=true) (hr:noRef r=true) (h:s136 (call dp) (strip a0) [] fun d _=>stripT d=r):isoCall (call dp) 136 [a0]=some r:=iso_s (f:=d136) rfl ⟨rfl,by decide⟩ ha hr (by rw [←e136] at h;exact h)
theorem j136 (a0:D) (Post:D→Prop) (ha:noRefL (stripL [a0])=true) (hr:∀ r,Post r→noRef r=true) (h:s136 (call dp) (strip a0) [] fun d _=>Post (stripT d)):∃ r,isoCall (call dp) 136 [a0]=some r∧Post r:=iso_x (f:=d136) rfl ⟨rfl,by decide⟩ ha hr (by rw [←e136] at h;exact h)
def s137 (cf:CallF) (a0 a1:D) (S:Store) (Post:PT):Prop:=
 OX (isoCall cf 185 [a0,a1]) fun x1=>OX (binD .geq .num x1 (.i .i64 0)) fun x2=>Post x2 S
theorem e137:wp cf c137 (frame0 d137 [a0,a1]) S (FinK d137.res Post)=s137 cf a0 a1 S Post:=wpS_of (by kernel_rfl)
theorem i137 (a0 a1:D) (r:D) (ha:noRefL (stripL [a0,a1])=true) (hr:noRef r=true) (h:s137 (call dp) (strip a0) (strip a1) [] fun d _=>stripT d=r):isoCall (call dp) 137 [a0,a1]=some r:=iso_s (f:=d137) rfl ⟨rfl,by decide⟩ ha hr (by rw [←e137] at h;exact h)
def s185_r0 (cf:CallF) (a0 a1 a4 a7 a8 a9:D) (S:Store) (Q:QT):Prop:=
 Q .ret (mkf 19 [(0,.top),(1,.top),(4,(.i .i64 (-1))),(7,.top),(8,.top),(9,.top)]) S
theorem e185_r0:wp cf c185_r0 (mkf 19 [(0,a0),(1,a1),(4,a4),(7,a7),(8,a8),(9,a9)]) S Q=s185_r0 cf a0 a1 a4 a7 a8 a9 S Q:=wpS_of (by kernel_rfl)
def s185_0 (cf:CallF) (a0 a1 a4 a7 a8 a9:D) (S:Store) (Q:QT):Prop:=
 OX (binD .lss .num a8 a7) fun x1=>WB x1
 (OX (iaD 2 a0 a8) fun x2=>OX (ldD S 2 true x2) fun x3=>OX (fnD a1) fun q5=>OX (isoCall cf q5.1 ([x3]++q5.2)) fun x4=>WB x4
 (Q .ret (mkf 19 [(0,.top),(1,.top),(4,a8),(7,.top),(8,.top),(9,.top)]) S)
 (OX (binD .add .num a8 (.i .i64 1)) fun x6=>Q .normal (mkf 19 [(0,a0),(1,a1),(4,a4),(7,a7),(8,x6),(9,.top)]) S))
 (Q (.exit 0) (mkf 19 [(0,a0),(1,a1),(4,a4),(7,a7),(8,a8),(9,x1)]) S)
theorem e185_0:wp cf c185_0 (fkill (mkf 19 [(0,a0),(1,a1),(4,a4),(7,a7),(8,a8),(9,a9)]) []) S Q=s185_0 cf a0 a1 a4 a7 a8 a9 S Q:=wpS_of (by kernel_rfl)
def s185 (cf:CallF) (a0 a1:D) (S:Store) (Post:PT):Prop:=
 OX (lenD false a0) fun x7=>W cf (.loop [] c185_0) (mkf 19 [(0,a0),(1,a1),(4,.top),(7,x7),(8,(.i .i64 0)),(9,.top)]) S (Qblk 0 (QS cf c185_r0 (FinK [.t 4] Post)))
theorem e185:wp cf c185 (frame0 d185 [a0,a1]) S (FinK d185.res Post)=s185 cf a0 a1 S Post:=wpS_of (by kernel_rfl)
theorem j185 (a0 a1:D) (Post:D→Prop) (ha:noRefL (stripL [a0,a1])=true) (hr:∀ r,Post r→noRef r=true) (h:s185 (call dp) (strip a0) (strip a1) [] fun d _=>Post (stripT d)):∃ r,isoCall (call dp) 185 [a0,a1]=some r∧Post r:=iso_x (f:=d185) rfl ⟨rfl,by decide⟩ ha hr (by rw [←e185] at h;exact h)
def s139 (cf:CallF) (a0 a1:D) (S:Store) (Post:PT):Prop:=
 OX (isoCall cf 186 [a0,a1]) fun x1=>OX (binD .geq .num x1 (.i .i64 0)) fun x2=>Post x2 S
theorem e139:wp cf c139 (frame0 d139 [a0,a1]) S (FinK d139.res Post)=s139 cf a0 a1 S Post:=wpS_of (by kernel_rfl)
theorem i139 (a0 a1:D) (r:D) (ha:noRefL (stripL [a0,a1])=true) (hr:noRef r=true) (h:s139 (call dp) (strip a0) (strip a1) [] fun d _=>stripT d=r):isoCall (call dp) 139 [a0,a1]=some r:=iso_s (f:=d139) rfl ⟨rfl,by decide⟩ ha hr (by rw [←e139] at h;exact h)
def s186_r0 (cf:CallF) (a0 a1 a4 a7 a8 a9:D) (S:Store) (Q:QT):Prop:=
 Q .ret (mkf 19 [(0,.top),(1,.top),(4,(.i .i64 (-1))),(7,.top),(8,.top),(9,.top)]) S
theorem e186_r0:wp cf c186_r0 (mkf 19 [(0,a0),(1,a1),(4,a4),(7,a7),(8,a8),(9,a9)]) S Q=s186_r0 cf a0 a1 a4 a7 a8 a9 S Q:=wpS_of (by kernel_rfl)
def s186_0 (cf:CallF) (a0 a1 a4 a7 a8 a9:D) (S:Store) (Q:QT):Prop:=
 OX (binD .lss .num a8 a7) fun x1=>WB x1
 (OX (iaD 11 a0 a8) fun x2=>OX (ldD S 11 true x2) fun x3=>OX (fnD a1) fun q5=>OX (isoCall cf q5.1 ([x3]++q5.2)) fun x4=>WB x4
 (Q .ret (mkf 19 [(0,.top),(1,.top),(4,a8),(7,.top),(8,.top),(9,.top)]) S)
 (OX (binD .add .num a8 (.i .i64 1)) fun x6=>Q .normal (mkf 19 [(0,a0),(1,a1),(4,a4),(7,a7),(8,x6),(9,.top)]) S))
 (Q (.exit 0) (mkf 19 [(0,a0),(1,a1),(4,a4),(7,a7),(8,a8),(9,x1)]) S)
theorem e186_0:wp cf c186_0 (fkill (mkf 19 [(0,a0),(1,a1),(4,a4),(7,a7),(8,a8),(9,a9)]) []) S Q=s186_0 cf a0 a1 a4 a7 a8 a9 S Q:=wpS_of (by kernel_rfl)
def s186 (cf:CallF) (a0 a1:D) (S:Store) (Post:PT):Prop:=
 OX (lenD false a0) fun x7=>W cf (.loop [] c186_0) (mkf 19 [(0,a0),(1,a1),(4,.top),(7,x7),(8,(.i .i64 0)),(9,.top)]) S (Qblk 0 (QS cf c186_r0 (FinK [.t 4] Post)))
theorem e186:wp cf c186 (frame0 d186 [a0,a1]) S (FinK d186.res Post)=s186 cf a0 a1 S Post:=wpS_of (by kernel_rfl)
theorem j186 (a0 a1:D) (Post:D→Prop) (ha:noRefL (stripL [a0,a1])=true) (hr:∀ r,Post r→noRef r=true) (h:s186 (call dp) (strip a0) (strip a1) [] fun d _=>Post (stripT d)):∃ r,isoCall (call dp) 186 [a0,a1]=some r∧Post r:=iso_x (f:=d186) rfl ⟨rfl,by decide⟩ ha hr (by rw [←e186] at h;exact h)
def s97 (cf:CallF) (a0 a1:D) (S:Store) (Post:PT):Prop:=
 bxx 2 true a0 S fun x1 S2=>bxx 2 true a1 S2 fun x3 S4=>OX (faD 1 x1) fun x5=>OX (ldD S4 1 false x5) fun x6=>OX (faD 1 x3) fun x7=>OX (ldD S4 1 false x7) fun x8=>OX (isoCall cf 141 [x6,x8,(.fn 142 [])]) fun x9=>Post x9 S4
theorem e97:wp cf c97 (frame0 d97 [a0,a1]) S (FinK d97.res Post)=s97 cf a0 a1 S Post:=wpS_of (by kernel_rfl)
theorem i97 (a0 a1:D) (r:D) (ha:noRefL (stripL [a0,a1])=true) (hr:noRef r=true) (h:s97 (call dp) (strip a0) (strip a1) [] fun d _=>stripT d=r):isoCall (call dp) 97 [a0,a1]=some r:=iso_s (f:=d97) rfl ⟨rfl,by decide⟩ ha hr (by rw [←e97] at h;exact h)
def s141_r0 (cf:CallF) (a0 a1 a2 a6 a11 a12 a13 a14:D) (S:Store) (Q:QT):Prop:=
 OX (lenD false a0) fun x1=>OX (lenD false a1) fun x2=>OX (binD .lss .num x1 x2) fun x3=>WB x3
 (Q .ret (mkf 39 [(0,.top),(1,.top),(2,.top),(6,(.i .i64 (-1))),(11,.top),(12,.top),(13,.top),(14,.top)]) S)
 (Q .ret (mkf 39 [(0,.top),(1,.top),(2,.top),(6,(.i .i64 0)),(11,.top),(12,.top),(13,.top),(14,.top)]) S)
theorem e141_r0:wp cf c141_r0 (mkf 39 [(0,a0),(1,a1),(2,a2),(6,a6),(11,a11),(12,a12),(13,a13),(14,a14)]) S Q=s141_r0 cf a0 a1 a2 a6 a11 a12 a13 a14 S Q:=wpS_of (by kernel_rfl)
def s141_0 (cf:CallF) (a0 a1 a2 a6 a11 a12 a13 a14:D) (S:Store) (Q:QT):Prop:=
 OX (binD .lss .num a13 a12) fun x4=>WB x4
 (OX (iaD 11 a11 a13) fun x5=>OX (ldD S 11 true x5) fun x6=>al [.i .i64 0,.i .i64 0,.i .i64 0,.sl 1 true [] .ro,.i .i64 0,.sl 4 true [] .ro,.i .i64 0,.i .i64 0,.i .i64 0,.s [],.i .i64 0] S fun x7 S8=>OX (stD S8 11 true x7 x6) fun S10=>OX (lenD false a1) fun x11=>OX (binD .geq .num a13 x11) fun x12=>WB x12
 (Q .ret (mkf 39 [(0,.top),(1,.top),(2,.top),(6,(.i .i64 1)),(11,.top),(12,.top),(13,.top),(14,.top)]) S10)
 (OX (iaD 11 a1 a13) fun x13=>OX (ldD S10 11 true x13) fun x14=>al [.i .i64 0,.i .i64 0,.i .i64 0,.sl 1 true [] .ro,.i .i64 0,.sl 4 true [] .ro,.i .i64 0,.i .i64 0,.i .i64 0,.s [],.i .i64 0] S10 fun x15 S16=>OX (stD S16 11 true x15 x14) fun S18=>OX (ldD S18 11 true x7) fun x19=>OX (ldD S18 11 true x15) fun x20=>OX (fnD a2) fun q22=>OX (isoCall cf q22.1 ([x19,x20]++q22.2)) fun x21=>OX (binD .neq .num x21 (.i .i64 0)) fun x23=>WB x23
 (Q .ret (mkf 39 [(0,.top),(1,.top),(2,.top),(6,x21),(11,.top),(12,.top),(13,.top),(14,.top)]) S18)
 (OX (binD .add .num a13 (.i .i64 1)) fun x24=>Q .normal (mkf 39 [(0,a0),(1,a1),(2,a2),(6,a6),(11,a11),(12,a12),(13,x24),(14,.top)]) S18)))
 (Q (.exit 0) (mkf 39 [(0,a0),(1,a1),(2,a2),(6,a6),(11,a11),(12,a12),(13,a13),(14,x4)]) S)
theorem e141_0:wp cf c141_0 (fkill (mkf 39 [(0,a0),(1,a1),(2,a2),(6,a6),(11,a11),(12,a12),(13,a13),(14,a14)]) []) S Q=s141_0 cf a0 a1 a2 a6 a11 a12 a13 a14 S Q:=wpS_of (by kernel_rfl)
def s141 (cf:CallF) (a0 a1 a2:D) (S:Store) (Post:PT):Prop:=
 OX (lenD false a0) fun x25=>W cf (.loop [] c141_0) (mkf 39 [(0,a0),(1,a1),(2,a2),(6,.top),(11,a0),(12,x25),(13,(.i .i64 0)),(14,.top)]) S (Qblk 0 (QS cf c141_r0 (FinK [.t 6] Post)))
theorem e141:wp cf c141 (frame0 d141 [a0,a1,a2]) S (FinK d141.res Post)=s141 cf a0 a1 a2 S Post:=wpS_of (by kernel_rfl)
theorem i141 (a0 a1 a2:D) (r:D) (ha:noRefL (stripL [a0,a1,a2])=true) (hr:noRef r=true) (h:s141 (call dp) (strip a0) (strip a1) (strip a2) [] fun d _=>stripT d=r):isoCall (call dp) 141 [a0,a1,a2]=some r:=iso_s (f:=d141) rfl ⟨rfl,by decide⟩ ha hr (by rw [←e141] at h;exact h)
def s142 (cf:CallF) (a0 a1:D) (S:Store) (Post:PT):Prop:=
 bxx 11 true a0 S fun x1 S2=>bxx 11 true a1 S2 fun x3 S4=>OX (faD 0 x1) fun x5=>OX (ldD S4 10 true x5) fun x6=>OX (faD 0 x3) fun x7=>OX (ldD S4 10 true x7) fun x8=>OX (isoCall cf 99 [x6,x8]) fun x9=>OX (faD 10 x1) fun x10=>OX (ldD S4 1 false x10) fun x11=>OX (faD 10 x3) fun x12=>OX (ldD S4 1 false x12) fun x13=>OX (isoCall cf 144 [x11,x13]) fun x14=>OX (cellsV 1 false [x9,x14]) fun x15=>OX (isoCall cf 143 [(.sl 1 false x15 .ro)]) fun x16=>Post x16 S4
theorem e142:wp cf c142 (frame0 d142 [a0,a1]) S (FinK d142.res Post)=s142 cf a0 a1 S Post:=wpS_of (by kernel_rfl)
theorem i142 (a0 a1:D) (r:D) (ha:noRefL (stripL [a0,a1])=true) (hr:noRef r=true) (h:s142 (call dp) (strip a0) (strip a1) [] fun d _=>stripT d=r):isoCall (call dp) 142 [a0,a1]=some r:=iso_s (f:=d142) rfl ⟨rfl,by decide⟩ ha hr (by rw [←e142] at h;exact h)
end Go.Proofs.YtjlmeikcfdanmaaGreatDoor.DE

namespace Go.Proofs.YtjlmeikcfdanmaaGreatDoor.DE
open Go
variable (cf:CallF) (a0 a1:D) (S:Store) (Q:QT) (Post:PT)
def s190 (cf:CallF) (a0 a1:D) (S:Store) (Post:PT):Prop:=
 OX (isoCall cf 214 [a0]) fun x1=>OX (isoCall cf 214 [a1]) fun x2=>WB x1
 (WB x2
 (Post (.i .i64 0) S)
 (Post (.i .i64 (-1)) S))
 (WB x2
 (Post (.i .i64 1) S)
 (OX (binD .lss .num a0 a1) fun x3=>WB x3
 (Post (.i .i64 (-1)) S)
 (OX (binD .gtr .num a0 a1) fun x4=>WB x4
 (Post (.i .i64 1) S)
 (Post (.i .i64 0) S))))
theorem e190:wp cf c190 (frame0 d190 [a0,a1]) S (FinK d190.res Post)=s190 cf a0 a1 S Post:=wpS_of (by kernel_rfl)
theorem i190 (a0 a1:D) (r:D) (ha:noRefL (stripL [a0,a1])=true) (hr:noRef r=true) (h:s190 (call dp) (strip a0) (strip a1) [] fun d _=>stripT d=r):isoCall (call dp) 190 [a0,a1]=some r:=iso_s (f:=d190) rfl ⟨rfl,by decide⟩ ha hr (by rw [←e190] at h;exact h)
def s214 (cf:CallF) (a0:D) (S:Store) (Post:PT):Prop:=
 OX (binD .neq .num a0 a0) fun x1=>Post x1 S
theorem e214:wp cf c214 (frame0 d214 [a0]) S (FinK d214.res Post)=s214 cf a0 S Post:=wpS_of (by kernel_rfl)
theorem i214 (a0:D) (r:D) (ha:noRefL (stripL [a0])=true) (hr:noRef r=true) (h:s214 (call dp) (strip a0) [] fun d _=>stripT d=r):isoCall (call dp) 214 [a0]=some r:=iso_s (f:=d214) rfl ⟨rfl,by decide⟩ ha hr (by rw [←e214] at h;exact h)
def s215 (cf:CallF) (a0 a1:D) (S:Store) (Post:PT):Prop:=
 OX (cmpsD a0 a1) fun x1=>Post x1 S
theorem e215:wp cf c215 (frame0 d215 [a0,a1]) S (FinK d215.res Post)=s215 cf a0 a1 S Post:=wpS_of (by kernel_rfl)
theorem i215 (a0 a1:D) (r:D) (ha:noRefL (stripL [a0,a1])=true) (hr:noRef r=true) (h:s215 (call dp) (strip a0) (strip a1) [] fun d _=>stripT d=r):isoCall (call dp) 215 [a0,a1]=some r:=iso_s (f:=d215) rfl ⟨rfl,by decide⟩ ha hr (by rw [←e215] at h;exact h)
end Go.Proofs.YtjlmeikcfdanmaaGreatDoor.DE

namespace Go.Proofs.YtjlmeikcfdanmaaGreatDoor.DE.V
open Go BT
set_option linter.unusedSimpArgs false
def orL:List Int→Int
 | []=>0
 | x::l=>if x=0 then orL l else x
def cmpL {α:Type} (c:α→α→Int):List α→List α→Int
 | [],[]=>0
 | [],_::_=>-1
 | _::_,[]=>1
 | x::l,y::m=>if c x y=0 then cmpL c l m else c x y
def cmpB (l m:List UInt8):Int:=if Op.bytesLess l m then -1 else if l == m then 0 else 1
def cmpVl (a b:Vl):Int:=orL [cmpI a.kind b.kind,cmpI a.int b.int,cmpB a.text b.text]
section
variable {α:Type} (c:α→α→Int)
def cmpIt (p q:Vl × α):Int:=orL [cmpVl p.1 q.1,c p.2 q.2]
def cmpAt (f g:Fc α):Int:=orL [cmpI f.kind g.kind,cmpI f.row.1 g.row.1,cmpI f.row.2 g.row.2,cmpL c f.args g.args,cmpI f.fn g.fn,cmpL (cmpIt c) f.items g.items,cmpI f.op g.op,cmpVl f.bound g.bound]
def cmpFc (f g:Fc α):Int:=orL [cmpAt c f g,cmpI f.exp g.exp]
def cmpTl (s t:Tm α):Int:=cmpL (cmpFc c) s.fs t.fs
def cmpTm (s t:Tm α):Int:=orL [cmpTl c s t,cmpI s.c t.c]
def cmpAn (x y:An α):Int:=cmpL (cmpTm c) x.ts y.ts
end
def cmpAnn:(n:Nat)→Ann n→Ann n→Int
 | 0,x,_=>nomatch x
 | n+1,x,y=>cmpAn (cmpAnn n) x y
theorem drop_get {α:Type} {l:List α} {k:Nat} {x:α} (h:l[k]? = some x):l.drop k=x::l.drop (k+1):=by
 obtain ⟨hk,e⟩:=List.getElem?_eq_some_iff.1 h
 rw [←e];exact List.drop_eq_getElem_cons hk
theorem get_lt {α:Type} {l:List α} {k:Nat} (h:k<l.length):∃ x,l[k]? = some x:=⟨_,List.getElem?_eq_getElem h⟩
theorem v143g (l:List Int) (hb:Bd l.length):isoCall (call dp) 143 [.sl 1 false (l.map fun a=>[.i .i64 a]) .ro]=some (.i .i64 (orL l)):=by
 apply i143 _ _ (by simp [noRefL,noRef];exact noRefLL_map _ (fun _=>rfl) l) rfl
 have hs:strip (.sl 1 false (l.map fun a=>[D.i .i64 a]) .ro) = .sl 1 false (l.map fun a=>[D.i .i64 a]) .ro:=rfl
 rw [hs]
 simp [s143]
 let J:Nat→List D→Store→Prop:=fun q fr S=>∃ k a2 a9,k+q=l.length∧orL l=orL (l.drop k)∧S=[]∧fr=mkf 18 [(2,a2),(3,.i .i64 0),(6,.sl 1 false (l.map fun a=>[.i .i64 a]) .ro),(7,.i .i64 l.length),(8,.i .i64 k),(9,a9)]
 refine W_loop J ?_ l.length _ _ ⟨0,_,_,by simp,by simp,rfl,rfl⟩
 rintro q fr S ⟨k,a2,a9,hk,he,rfl,rfl⟩
 rw [←wp_W,e143_0]
 simp [s143_0]
 split
 ·rename_i h
  obtain ⟨x,hx⟩:=get_lt (l:=l) (k:=k) (by omega)
  rw [drop_get hx,orL] at he
  have hi:iaD 1 (.sl 1 false (l.map fun a=>[D.i .i64 a]) .ro) (.i .i64 k)=some (.el [.i .i64 x] 0):=by simp [iaD,hx]
  simp [hi]
  split
  ·rename_i hx0
   rw [if_pos hx0] at he
   simp [wrapS (hb.lt (Nat.le_of_lt h))]
   exact ⟨q-1,by omega,k+1,_,_,by omega,he,rfl,rfl⟩
  ·rename_i hx0
   rw [if_neg hx0] at he
   simp [he]
 ·rw [List.drop_of_length_le (by omega),orL] at he
  simp [e143_r0,s143_r0,he]
theorem v214 (a:Int):isoCall (call dp) 214 [.i .i64 a]=some (.b false):=by
 apply i214 _ _ rfl rfl
 simp [s214]
theorem v190 (a b:Int):isoCall (call dp) 190 [.i .i64 a,.i .i64 b]=some (.i .i64 (cmpI a b)):=by
 apply i190 _ _ _ rfl rfl
 simp [s190,v214]
 rcases cmpI_cases a b with ⟨h,e⟩ | ⟨h,e⟩ | ⟨h,e⟩ <;> rw [e]
 ·simp [h]
 ·simp [h]
 ·have:¬a<b:=by omega
  simp [h,this]
theorem v215 (l m:List UInt8):isoCall (call dp) 215 [.s l,.s m]=some (.i .i64 (cmpB l m)):=by
 apply i215 _ _ _ rfl rfl
 simp [s215,cmpsD,cmpB]
theorem v191 (l m:List UInt8):isoCall (call dp) 191 [.s l,.s m]=some (.i .i64 (cmpB l m)):=by
 apply i191 _ _ _ rfl rfl
 simp [s191,v215]
theorem v149 (a b:Vl):isoCall (call dp) 149 [.agg (eVl a),.agg (eVl b)]=some (.i .i64 (cmpVl a b)):=by
 apply i149 _ _ _ rfl rfl
 have h:=v143g [cmpI a.kind b.kind,cmpI a.int b.int,cmpB a.text b.text] (by simp [Bd])
 simp only [List.map_cons,List.map_nil] at h
 simp [s149,v144,v190,v191,cellsV,h,cmpVl]
def vlOk (v:Vl):Bool:=
 if v.kind=0 then v.text == [] else if v.kind=1 then decide (v.int=0∧v.text.length≤255) else if v.kind=2 then decide (v.int=0∨v.int=1)&&v.text == [] else false
theorem v194 (v:Vl):isoCall (call dp) 194 [.agg (eVl v)]=some (.b (vlOk v)):=by
 apply i194 _ _ rfl rfl
 simp [s194,vlOk]
 by_cases h0:v.kind=0
 ·simp [h0,-OX_b]
 ·by_cases h1:v.kind=1
  ·simp [h1]
   by_cases h:v.int=0 <;> by_cases h':v.text.length≤255 <;> simp [h,h'] <;> omega
  ·by_cases h2:v.kind=2
   ·simp [h2]
    by_cases h:v.int=0 <;> by_cases h':v.int=1 <;> simp_all <;> split <;> simp_all
   ·simp [h0,h1,h2]
section
variable {α:Type} {e:α→D} {c:α→α→Int}
theorem v141 (he:GE e) (c:Fc α→Fc α→Int) (nl nl':Bool) (l m:List (Fc α)) (hb:Len63 l.length)
  (hf:∀ x,x∈l→∀ y,y∈m→isoCall (call dp) 142 [.agg (eFc e x),.agg (eFc e y)]=some (.i .i64 (c x y))) :
  isoCall (call dp) 141 [eFcs e nl l,eFcs e nl' m,.fn 142 []]=some (.i .i64 (cmpL c l m)):=by
 apply i141 _ _ _ _ (by simp [noRefL,noRef_eFcs he];rfl) rfl
 have hs:strip (.fn 142 []) = .fn 142 []:=rfl
 simp [s141,hs]
 let J:Nat→List D→Store→Prop:=fun q fr S=>∃ k a6 a14,k+q=l.length∧cmpL c l m=cmpL c (l.drop k) (m.drop k)∧fr=mkf 39 [(0,eFcs e nl l),(1,eFcs e nl' m),(2,.fn 142 []),(6,a6),(11,eFcs e nl l),(12,.i .i64 l.length),(13,.i .i64 k),(14,a14)]
 refine W_loop J ?_ l.length _ _ ⟨0,_,_,by simp,by simp,rfl⟩
 rintro q fr S ⟨k,a6,a14,hk,hc,rfl⟩
 rw [←wp_W,e141_0]
 simp [s141_0]
 split
 ·rename_i h
  obtain ⟨x,hx⟩:=get_lt (l:=l) (k:=k) (by omega)
  rw [drop_get hx] at hc
  simp [iaD_eFcs e _ hx]
  split
  ·rename_i hm
   rw [List.drop_eq_nil_of_le (show m.length≤k by omega),cmpL] at hc
   simp [hc]
  ·rename_i hm
   obtain ⟨y,hy⟩:=get_lt (l:=m) (k:=k) (by omega)
   rw [drop_get hy,cmpL] at hc
   simp [iaD_eFcs e _ hy,hf x (List.mem_of_getElem? hx) y (List.mem_of_getElem? hy)]
   split
   ·rename_i h0
    rw [if_pos h0] at hc
    simp [wrapL h hb]
    exact ⟨q-1,by omega,k+1,_,_,by omega,hc,rfl⟩
   ·rename_i h0
    rw [if_neg h0] at hc
    simp [hc]
 ·rw [List.drop_eq_nil_of_le (show l.length≤k by omega)] at hc
  simp [e141_r0,s141_r0]
  split
  ·obtain ⟨y,hy⟩:=get_lt (l:=m) (k:=k) (by omega)
   rw [drop_get hy,cmpL] at hc
   simp [hc]
  ·rw [List.drop_eq_nil_of_le (show m.length≤k by omega),cmpL] at hc
   simp [hc]
end
end Go.Proofs.YtjlmeikcfdanmaaGreatDoor.DE.V

namespace Go.Proofs.YtjlmeikcfdanmaaGreatDoor.DE.V
open Go BT
set_option linter.unusedSimpArgs false
section
variable {α:Type} {e:α→D}
theorem v145 (he:GE e) (c:α→α→Int) (nl nl':Bool) (l m:List α) (hb:Len63 l.length)
  (hf:∀ x,x∈l→∀ y,y∈m→isoCall (call dp) 146 [(e x),(e y)]=some (.i .i64 (c x y))) :
  isoCall (call dp) 145 [eArgs e nl l,eArgs e nl' m,.fn 146 []]=some (.i .i64 (cmpL c l m)):=by
 apply i145 _ _ _ _ (by simp [noRefL,noRef_eArgs he];rfl) rfl
 have hs:strip (.fn 146 []) = .fn 146 []:=rfl
 simp [s145,hs]
 let J:Nat→List D→Store→Prop:=fun q fr S=>∃ k a6 a14,k+q=l.length∧cmpL c l m=cmpL c (l.drop k) (m.drop k)∧fr=mkf 39 [(0,eArgs e nl l),(1,eArgs e nl' m),(2,.fn 146 []),(6,a6),(11,eArgs e nl l),(12,.i .i64 l.length),(13,.i .i64 k),(14,a14)]
 refine W_loop J ?_ l.length _ _ ⟨0,_,_,by simp,by simp,rfl⟩
 rintro q fr S ⟨k,a6,a14,hk,hc,rfl⟩
 rw [←wp_W,e145_0]
 simp [s145_0]
 split
 ·rename_i h
  obtain ⟨x,hx⟩:=get_lt (l:=l) (k:=k) (by omega)
  rw [drop_get hx] at hc
  simp [iaD_eArgs e _ hx]
  split
  ·rename_i hm
   rw [List.drop_eq_nil_of_le (show m.length≤k by omega),cmpL] at hc
   simp [hc]
  ·rename_i hm
   obtain ⟨y,hy⟩:=get_lt (l:=m) (k:=k) (by omega)
   rw [drop_get hy,cmpL] at hc
   simp [iaD_eArgs e _ hy,hf x (List.mem_of_getElem? hx) y (List.mem_of_getElem? hy)]
   split
   ·rename_i h0
    rw [if_pos h0] at hc
    simp [wrapL h hb]
    exact ⟨q-1,by omega,k+1,_,_,by omega,hc,rfl⟩
   ·rename_i h0
    rw [if_neg h0] at hc
    simp [hc]
 ·rw [List.drop_eq_nil_of_le (show l.length≤k by omega)] at hc
  simp [e145_r0,s145_r0]
  split
  ·obtain ⟨y,hy⟩:=get_lt (l:=m) (k:=k) (by omega)
   rw [drop_get hy,cmpL] at hc
   simp [hc]
  ·rw [List.drop_eq_nil_of_le (show m.length≤k by omega),cmpL] at hc
   simp [hc]
theorem v147 (he:GE e) (c:(Vl × α)→(Vl × α)→Int) (nl nl':Bool) (l m:List (Vl × α)) (hb:Len63 l.length)
  (hf:∀ x,x∈l→∀ y,y∈m→isoCall (call dp) 148 [(.agg (eIt e x)),(.agg (eIt e y))]=some (.i .i64 (c x y))) :
  isoCall (call dp) 147 [eItems e nl l,eItems e nl' m,.fn 148 []]=some (.i .i64 (cmpL c l m)):=by
 apply i147 _ _ _ _ (by simp [noRefL,noRef_eItems he];rfl) rfl
 have hs:strip (.fn 148 []) = .fn 148 []:=rfl
 simp [s147,hs]
 let J:Nat→List D→Store→Prop:=fun q fr S=>∃ k a6 a14,k+q=l.length∧cmpL c l m=cmpL c (l.drop k) (m.drop k)∧fr=mkf 39 [(0,eItems e nl l),(1,eItems e nl' m),(2,.fn 148 []),(6,a6),(11,eItems e nl l),(12,.i .i64 l.length),(13,.i .i64 k),(14,a14)]
 refine W_loop J ?_ l.length _ _ ⟨0,_,_,by simp,by simp,rfl⟩
 rintro q fr S ⟨k,a6,a14,hk,hc,rfl⟩
 rw [←wp_W,e147_0]
 simp [s147_0]
 split
 ·rename_i h
  obtain ⟨x,hx⟩:=get_lt (l:=l) (k:=k) (by omega)
  rw [drop_get hx] at hc
  simp [iaD_eItems e _ hx,cellsK_it e he]
  split
  ·rename_i hm
   rw [List.drop_eq_nil_of_le (show m.length≤k by omega),cmpL] at hc
   simp [hc]
  ·rename_i hm
   obtain ⟨y,hy⟩:=get_lt (l:=m) (k:=k) (by omega)
   rw [drop_get hy,cmpL] at hc
   simp [iaD_eItems e _ hy,hf x (List.mem_of_getElem? hx) y (List.mem_of_getElem? hy),cellsK_it e he]
   split
   ·rename_i h0
    rw [if_pos h0] at hc
    simp [wrapL h hb]
    exact ⟨q-1,by omega,k+1,_,_,by omega,hc,rfl⟩
   ·rename_i h0
    rw [if_neg h0] at hc
    simp [hc]
 ·rw [List.drop_eq_nil_of_le (show l.length≤k by omega)] at hc
  simp [e147_r0,s147_r0]
  split
  ·obtain ⟨y,hy⟩:=get_lt (l:=m) (k:=k) (by omega)
   rw [drop_get hy,cmpL] at hc
   simp [hc]
  ·rw [List.drop_eq_nil_of_le (show m.length≤k by omega),cmpL] at hc
   simp [hc]
theorem v188 (he:GE e) (c:(Tm α)→(Tm α)→Int) (nl nl':Bool) (l m:List (Tm α)) (hb:Len63 l.length)
  (hf:∀ x,x∈l→∀ y,y∈m→isoCall (call dp) 189 [(.agg (eTm e x)),(.agg (eTm e y))]=some (.i .i64 (c x y))) :
  isoCall (call dp) 188 [eTms e nl l,eTms e nl' m,.fn 189 []]=some (.i .i64 (cmpL c l m)):=by
 apply i188 _ _ _ _ (by simp [noRefL,noRef_eTms he];rfl) rfl
 have hs:strip (.fn 189 []) = .fn 189 []:=rfl
 simp [s188,hs]
 let J:Nat→List D→Store→Prop:=fun q fr S=>∃ k a6 a14,k+q=l.length∧cmpL c l m=cmpL c (l.drop k) (m.drop k)∧fr=mkf 39 [(0,eTms e nl l),(1,eTms e nl' m),(2,.fn 189 []),(6,a6),(11,eTms e nl l),(12,.i .i64 l.length),(13,.i .i64 k),(14,a14)]
 refine W_loop J ?_ l.length _ _ ⟨0,_,_,by simp,by simp,rfl⟩
 rintro q fr S ⟨k,a6,a14,hk,hc,rfl⟩
 rw [←wp_W,e188_0]
 simp [s188_0]
 split
 ·rename_i h
  obtain ⟨x,hx⟩:=get_lt (l:=l) (k:=k) (by omega)
  rw [drop_get hx] at hc
  simp [iaD_eTms e _ hx]
  split
  ·rename_i hm
   rw [List.drop_eq_nil_of_le (show m.length≤k by omega),cmpL] at hc
   simp [hc]
  ·rename_i hm
   obtain ⟨y,hy⟩:=get_lt (l:=m) (k:=k) (by omega)
   rw [drop_get hy,cmpL] at hc
   simp [iaD_eTms e _ hy,hf x (List.mem_of_getElem? hx) y (List.mem_of_getElem? hy)]
   split
   ·rename_i h0
    rw [if_pos h0] at hc
    simp [wrapL h hb]
    exact ⟨q-1,by omega,k+1,_,_,by omega,hc,rfl⟩
   ·rename_i h0
    rw [if_neg h0] at hc
    simp [hc]
 ·rw [List.drop_eq_nil_of_le (show l.length≤k by omega)] at hc
  simp [e188_r0,s188_r0]
  split
  ·obtain ⟨y,hy⟩:=get_lt (l:=m) (k:=k) (by omega)
   rw [drop_get hy,cmpL] at hc
   simp [hc]
  ·rw [List.drop_eq_nil_of_le (show m.length≤k by omega),cmpL] at hc
   simp [hc]
theorem v159 (he:GE e) (p:α→Bool) (f:Nat) (nl:Bool) (l:List α) (hb:Len63 l.length) (hf:∀ x,x∈l→isoCall (call dp) f [(e x)]=some (.b (p x))) :
  ∃ r,isoCall (call dp) 159 [eArgs e nl l,.fn f []]=some r∧∃ n:Int,r = .i .i64 n∧decide (0≤n)=l.any p:=by
 apply j159 _ _ (fun r=>∃ n:Int,r = .i .i64 n∧decide (0≤n)=l.any p) (by simp [noRefL,noRef_eArgs he];rfl) (by rintro r ⟨n,rfl,_⟩;rfl)
 have hs:strip (.fn f []) = .fn f []:=rfl
 simp only [s159,hs]
 simp only [strip_eArgs,strip_eItems,strip_eFcs,strip_eTms,lenD_eArgs,lenD_eItems,lenD_eFcs,lenD_eTms,OX_some]
 let J:Nat→List D→Store→Prop:=fun q fr S=>∃ k a4 a9,k+q=l.length∧l.any p=(l.drop k).any p∧fr=mkf 19 [(0,eArgs e nl l),(1,.fn f []),(4,a4),(7,.i .i64 l.length),(8,.i .i64 k),(9,a9)]
 refine W_loop J ?_ l.length _ _ ⟨0,_,_,by simp,by simp,rfl⟩
 rintro q fr S ⟨k,a4,a9,hk,hc,rfl⟩
 rw [←wp_W,e159_0]
 simp [s159_0]
 split
 ·rename_i h
  obtain ⟨x,hx⟩:=get_lt (l:=l) (k:=k) (by omega)
  rw [drop_get hx,List.any_cons] at hc
  simp [iaD_eArgs e _ hx,hf x (List.mem_of_getElem? hx)]
  split
  ·rename_i hp
   simp only [hp,Bool.true_or] at hc
   have:=List.any_eq_true.1 hc
   simpa using this
  ·rename_i hp
   simp only [hp,Bool.false_or] at hc
   simp [wrapL h hb]
   exact ⟨q-1,by omega,k+1,_,_,by omega,hc,rfl⟩
 ·rw [List.drop_eq_nil_of_le (show l.length≤k by omega)] at hc
  simp [e159_r0,s159_r0]
  simpa using hc
theorem v101 (he:GE e) (p:α→Bool) (f:Nat) (nl:Bool) (l:List α) (hb:Len63 l.length) (hf:∀ x,x∈l→isoCall (call dp) f [(e x)]=some (.b (p x))) :
  isoCall (call dp) 101 [eArgs e nl l,.fn f []]=some (.b (l.any p)):=by
 apply i101 _ _ _ (by simp [noRefL,noRef_eArgs he];rfl) rfl
 have hs:strip (.fn f []) = .fn f []:=rfl
 obtain ⟨r,h,n,rfl,hn⟩:=v159 he p f nl l hb hf
 simp only [s101,hs,strip_eArgs,strip_eItems,strip_eFcs,strip_eTms,h,OX_some,bin_geq,stripT_b,hn]
theorem v186 (he:GE e) (p:(Fc α)→Bool) (f:Nat) (nl:Bool) (l:List (Fc α)) (hb:Len63 l.length) (hf:∀ x,x∈l→isoCall (call dp) f [(.agg (eFc e x))]=some (.b (p x))) :
  ∃ r,isoCall (call dp) 186 [eFcs e nl l,.fn f []]=some r∧∃ n:Int,r = .i .i64 n∧decide (0≤n)=l.any p:=by
 apply j186 _ _ (fun r=>∃ n:Int,r = .i .i64 n∧decide (0≤n)=l.any p) (by simp [noRefL,noRef_eFcs he];rfl) (by rintro r ⟨n,rfl,_⟩;rfl)
 have hs:strip (.fn f []) = .fn f []:=rfl
 simp only [s186,hs]
 simp only [strip_eArgs,strip_eItems,strip_eFcs,strip_eTms,lenD_eArgs,lenD_eItems,lenD_eFcs,lenD_eTms,OX_some]
 let J:Nat→List D→Store→Prop:=fun q fr S=>∃ k a4 a9,k+q=l.length∧l.any p=(l.drop k).any p∧fr=mkf 19 [(0,eFcs e nl l),(1,.fn f []),(4,a4),(7,.i .i64 l.length),(8,.i .i64 k),(9,a9)]
 refine W_loop J ?_ l.length _ _ ⟨0,_,_,by simp,by simp,rfl⟩
 rintro q fr S ⟨k,a4,a9,hk,hc,rfl⟩
 rw [←wp_W,e186_0]
 simp [s186_0]
 split
 ·rename_i h
  obtain ⟨x,hx⟩:=get_lt (l:=l) (k:=k) (by omega)
  rw [drop_get hx,List.any_cons] at hc
  simp [iaD_eFcs e _ hx,hf x (List.mem_of_getElem? hx)]
  split
  ·rename_i hp
   simp only [hp,Bool.true_or] at hc
   have:=List.any_eq_true.1 hc
   simpa using this
  ·rename_i hp
   simp only [hp,Bool.false_or] at hc
   simp [wrapL h hb]
   exact ⟨q-1,by omega,k+1,_,_,by omega,hc,rfl⟩
 ·rw [List.drop_eq_nil_of_le (show l.length≤k by omega)] at hc
  simp [e186_r0,s186_r0]
  simpa using hc
theorem v139 (he:GE e) (p:(Fc α)→Bool) (f:Nat) (nl:Bool) (l:List (Fc α)) (hb:Len63 l.length) (hf:∀ x,x∈l→isoCall (call dp) f [(.agg (eFc e x))]=some (.b (p x))) :
  isoCall (call dp) 139 [eFcs e nl l,.fn f []]=some (.b (l.any p)):=by
 apply i139 _ _ _ (by simp [noRefL,noRef_eFcs he];rfl) rfl
 have hs:strip (.fn f []) = .fn f []:=rfl
 obtain ⟨r,h,n,rfl,hn⟩:=v186 he p f nl l hb hf
 simp only [s139,hs,strip_eArgs,strip_eItems,strip_eFcs,strip_eTms,h,OX_some,bin_geq,stripT_b,hn]
theorem v193 (he:GE e) (p:(Vl × α)→Bool) (f:Nat) (nl:Bool) (l:List (Vl × α)) (hb:Len63 l.length) (hf:∀ x,x∈l→isoCall (call dp) f [(.agg (eIt e x))]=some (.b (p x))) :
  ∃ r,isoCall (call dp) 193 [eItems e nl l,.fn f []]=some r∧∃ n:Int,r = .i .i64 n∧decide (0≤n)=l.any p:=by
 apply j193 _ _ (fun r=>∃ n:Int,r = .i .i64 n∧decide (0≤n)=l.any p) (by simp [noRefL,noRef_eItems he];rfl) (by rintro r ⟨n,rfl,_⟩;rfl)
 have hs:strip (.fn f []) = .fn f []:=rfl
 simp only [s193,hs]
 simp only [strip_eArgs,strip_eItems,strip_eFcs,strip_eTms,lenD_eArgs,lenD_eItems,lenD_eFcs,lenD_eTms,OX_some]
 let J:Nat→List D→Store→Prop:=fun q fr S=>∃ k a4 a9,k+q=l.length∧l.any p=(l.drop k).any p∧fr=mkf 19 [(0,eItems e nl l),(1,.fn f []),(4,a4),(7,.i .i64 l.length),(8,.i .i64 k),(9,a9)]
 refine W_loop J ?_ l.length _ _ ⟨0,_,_,by simp,by simp,rfl⟩
 rintro q fr S ⟨k,a4,a9,hk,hc,rfl⟩
 rw [←wp_W,e193_0]
 simp [s193_0]
 split
 ·rename_i h
  obtain ⟨x,hx⟩:=get_lt (l:=l) (k:=k) (by omega)
  rw [drop_get hx,List.any_cons] at hc
  simp [iaD_eItems e _ hx,cellsK_it e he,hf x (List.mem_of_getElem? hx)]
  split
  ·rename_i hp
   simp only [hp,Bool.true_or] at hc
   have:=List.any_eq_true.1 hc
   simpa using this
  ·rename_i hp
   simp only [hp,Bool.false_or] at hc
   simp [wrapL h hb]
   exact ⟨q-1,by omega,k+1,_,_,by omega,hc,rfl⟩
 ·rw [List.drop_eq_nil_of_le (show l.length≤k by omega)] at hc
  simp [e193_r0,s193_r0]
  simpa using hc
theorem v155 (he:GE e) (p:(Vl × α)→Bool) (f:Nat) (nl:Bool) (l:List (Vl × α)) (hb:Len63 l.length) (hf:∀ x,x∈l→isoCall (call dp) f [(.agg (eIt e x))]=some (.b (p x))) :
  isoCall (call dp) 155 [eItems e nl l,.fn f []]=some (.b (l.any p)):=by
 apply i155 _ _ _ (by simp [noRefL,noRef_eItems he];rfl) rfl
 have hs:strip (.fn f []) = .fn f []:=rfl
 obtain ⟨r,h,n,rfl,hn⟩:=v193 he p f nl l hb hf
 simp only [s155,hs,strip_eArgs,strip_eItems,strip_eFcs,strip_eTms,h,OX_some,bin_geq,stripT_b,hn]
theorem v185 (he:GE e) (p:(Tm α)→Bool) (f:Nat) (nl:Bool) (l:List (Tm α)) (hb:Len63 l.length) (hf:∀ x,x∈l→isoCall (call dp) f [(.agg (eTm e x))]=some (.b (p x))) :
  ∃ r,isoCall (call dp) 185 [eTms e nl l,.fn f []]=some r∧∃ n:Int,r = .i .i64 n∧decide (0≤n)=l.any p:=by
 apply j185 _ _ (fun r=>∃ n:Int,r = .i .i64 n∧decide (0≤n)=l.any p) (by simp [noRefL,noRef_eTms he];rfl) (by rintro r ⟨n,rfl,_⟩;rfl)
 have hs:strip (.fn f []) = .fn f []:=rfl
 simp only [s185,hs]
 simp only [strip_eArgs,strip_eItems,strip_eFcs,strip_eTms,lenD_eArgs,lenD_eItems,lenD_eFcs,lenD_eTms,OX_some]
 let J:Nat→List D→Store→Prop:=fun q fr S=>∃ k a4 a9,k+q=l.length∧l.any p=(l.drop k).any p∧fr=mkf 19 [(0,eTms e nl l),(1,.fn f []),(4,a4),(7,.i .i64 l.length),(8,.i .i64 k),(9,a9)]
 refine W_loop J ?_ l.length _ _ ⟨0,_,_,by simp,by simp,rfl⟩
 rintro q fr S ⟨k,a4,a9,hk,hc,rfl⟩
 rw [←wp_W,e185_0]
 simp [s185_0]
 split
 ·rename_i h
  obtain ⟨x,hx⟩:=get_lt (l:=l) (k:=k) (by omega)
  rw [drop_get hx,List.any_cons] at hc
  simp [iaD_eTms e _ hx,hf x (List.mem_of_getElem? hx)]
  split
  ·rename_i hp
   simp only [hp,Bool.true_or] at hc
   have:=List.any_eq_true.1 hc
   simpa using this
  ·rename_i hp
   simp only [hp,Bool.false_or] at hc
   simp [wrapL h hb]
   exact ⟨q-1,by omega,k+1,_,_,by omega,hc,rfl⟩
 ·rw [List.drop_eq_nil_of_le (show l.length≤k by omega)] at hc
  simp [e185_r0,s185_r0]
  simpa using hc
theorem v137 (he:GE e) (p:(Tm α)→Bool) (f:Nat) (nl:Bool) (l:List (Tm α)) (hb:Len63 l.length) (hf:∀ x,x∈l→isoCall (call dp) f [(.agg (eTm e x))]=some (.b (p x))) :
  isoCall (call dp) 137 [eTms e nl l,.fn f []]=some (.b (l.any p)):=by
 apply i137 _ _ _ (by simp [noRefL,noRef_eTms he];rfl) rfl
 have hs:strip (.fn f []) = .fn f []:=rfl
 obtain ⟨r,h,n,rfl,hn⟩:=v185 he p f nl l hb hf
 simp only [s137,hs,strip_eArgs,strip_eItems,strip_eFcs,strip_eTms,h,OX_some,bin_geq,stripT_b,hn]
end
end Go.Proofs.YtjlmeikcfdanmaaGreatDoor.DE.V
